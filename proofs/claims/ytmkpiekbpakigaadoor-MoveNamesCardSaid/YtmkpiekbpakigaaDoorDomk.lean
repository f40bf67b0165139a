/- What the claim needs of Mv24, in one text. -/
import Derived.Test.YtmkpiekbpakigaaDoorDomj
section
set_option linter.unusedVariables false
set_option linter.unusedSimpArgs false
namespace Go.Proofs.YtmkpiekbpakigaaDoor
open Go.RowKit Go.Proofs.Base Go.Proofs.Sym
theorem zai.draw {P : Program} {T : Sym.Tab} {N : Nat} {ops : Array Oper} {K : Exit -> St -> Prop} {st : St} (hT : T.Ok P) {id : Nat} (h : zs4 P T N (fun _ => True) ops (K .normal) st) : zai P N (.region id ops true) K st :=
 ⟨fun cx e a w hn hS => (zaw.draw (Cc := fun _ => True) hT h).run cx e a w trivial hn hS⟩
def cT (s : ByteArray) : Tm := .mk 4 0 s [] []
def zlx (s : ByteArray) : Option Tm -> Option (List (ByteArray × Tm) × Tm) -> Option (List (ByteArray × Tm) × Tm)
 | some typ, some q => some ((s, typ) :: q.1, q.2)
 | _, _ => none
def zs2 : Option Tm -> Option (List (ByteArray × Tm) × Tm)
 | some b => some ([], b)
 | none => none
def zp9 : Tm -> Option (Tm × Tm)
 | .mk _ _ _ _ [a, b] => some (a, b)
 | _ => none
def zeg : List ByteArray -> List ByteArray -> Tm -> Option (List (ByteArray × Tm) × Tm)
 | ds, [], t => zs2 (zjo (ds.map cT) t)
 | ds, s :: r, t => match zp9 t with
  | some (a, b) => zlx s (zjo (ds.map cT) a) (zeg (ds ++ [s]) r b)
  | none => none
def zfb (ys : List (ByteArray × Tm)) : Option (List (ByteArray × Tm) × Tm) -> Option (List (ByteArray × Tm) × Tm)
 | none => none
 | some q => some (ys ++ q.1, q.2)
def locM (l : ByteArray × TT) : ByteArray × Tm := (l.1, l.2.tm)
theorem zs6 (dn : List (ByteArray × TT)) : (dn.map locT).map TT.tm = (dn.map Prod.fst).map cT := by
 rw [List.map_map, List.map_map]
 refine List.map_congr_left fun l _ => ?_
 show (zba 4 0 l.1).tm = cT l.1
 unfold zba
 rw [zbs]
 rfl
theorem zhk (dn : List (ByteArray × TT)) {w : World} {A : Option Addr} {cp : Nat} (f1 : A = none -> dn.length = 0 /\ cp = 0) (f2 : dn.length <= cp) (f3 : cp <= maxLen) (h : SlAt w A (ttsC (dn.map locT))) (hs : ∀ l ∈ dn, l.1.size <= maxLen) : TsIn w A cp (dn.map locT) := by
 refine ⟨zez _ 0 (fun i u hi => ?_) (fun x hx => ?_), fun hA => ?_, ?_, f3⟩
 ·rw [Nat.zero_mul, Nat.zero_add]
  exact h i u hi
 ·obtain ⟨l, hl, rfl⟩ := List.mem_map.1 hx
  exact zeo w (I64.small _ (by decide) (by decide)) (I64.small _ (by decide) (by decide)) (hs l hl)
 ·rw [List.length_map]; exact f1 hA
 ·rw [List.length_map]; exact f2
def oG (A : Option Addr) (c : Nat) (ns : List ByteArray) (t : TT) (dn : List (ByteArray × TT)) (w : World) : Prop := ((ML w /\ SsIn w A c ns) /\ TTIn w t) /\ ∀ l ∈ dn, TTIn w l.2
theorem oG.up (A : Option Addr) (c : Nat) (ns : List ByteArray) (t : TT) (dn : List (ByteArray × TT)) : Up (oG A c ns t dn) := ((ML.up.and (SsIn.up _ _ _)).and (TTIn.upS _)).and fun w w' h hh l hl => TTIn.up h l.2 (hh l hl)
def oH (A : Option Addr) (c : Nat) (ns : List ByteArray) (t : TT) (dn : List (ByteArray × TT)) (x : TT) (w : World) : Prop := oG A c ns t dn w /\ TTIn w x
theorem oH.up (A : Option Addr) (c : Nat) (ns : List ByteArray) (t : TT) (dn : List (ByteArray × TT)) (x : TT) : Up (oH A c ns t dn x) := (oG.up _ _ _ _ _).and (TTIn.upS _)
def zel (A : Option Addr) (dn : List (ByteArray × TT)) (x : TT) (w : World) : Prop := (SlAt w A (locC dn) /\ ∀ l ∈ dn, TTIn w l.2) /\ TTIn w x
theorem zaav (dn : List (ByteArray × TT)) : Up fun w => ∀ l ∈ dn, TTIn w l.2 := fun w w' h hh l hl => TTIn.up h l.2 (hh l hl)
theorem zel.up (A : Option Addr) (dn : List (ByteArray × TT)) (x : TT) : Up (zel A dn x) := ((SlAt.up _ _).and (zaav dn)).and (TTIn.upS _)
def zuy (q : (Option Addr × Nat) × List (ByteArray × TT) × TT) : LRes := { v := .tup [.one (.v (.slice q.1.1 q.2.1.length q.1.2)), .agg (q.2.2.cells.map SA.v), .one (.v (.bool true))], m := [], k := 0, F := zel q.1.1 q.2.1 q.2.2 }
set_option maxHeartbeats 16000000 in
theorem zyo (t : TT) (k0 : Int) (A : Option Addr) (c : Nat) (ns : List ByteArray) (hz : za8 t.tm <= 3000) (hr : zbe t.tm = true) (hk : (decide (k0 = 6) || decide (k0 = 7)) = true) (hn : ns.length <= (zbz k0 t.tm).1) (hd : zdt [] ns = true) (hnl : ns.length <= 1000) (hns : ∀ x ∈ ns, x.size <= maxLen)
  (lr : List (ByteArray × Tm)) (br : Tm) (ho : zeg [] ns t.tm = some (lr, br)) :
  zav Tryd.prog 76 [ttA t, .one (.v (.int .i64 k0)), .one (.v (.slice A ns.length c))] [] 0 (fun w => (ML w /\ SsIn w A c ns) /\ TTIn w t) (fun q : (Option Addr × Nat) × List (ByteArray × TT) × TT => q.2.1.map locM = lr /\ q.2.2.tm = br) zuy := by
 have hst := zwc t k0 hz
 have hrp := zb4 t
 rw [show zbm 4 1099511627776 t.tm = true from hr] at hrp
 have hbp := zh0 k0
 rw [hk] at hbp
 have hdp := znw A c ns hd
 obtain ⟨N0, hN0⟩ : ∃ N, (zbz k0 t.tm).1 = N := ⟨_, rfl⟩
 obtain ⟨T0, hT0⟩ : ∃ N, (zbz k0 t.tm).2 = N := ⟨_, rfl⟩
 rw [hN0, hT0] at hst
 rw [hN0] at hn
 clear hN0 hT0
 obtain ⟨k, n, s, la, lc, ls, aa, ac, us⟩ := t
 refine zas zac 87 [.tmp 6, .cell 7 41, .tmp 8] Tryd.func76 rfl rfl (by kernel_rfl) rfl _ (leB rfl) ((ML.up.and (SsIn.up _ _ _)).and (TTIn.upS _)) ?_
 refine zaf zac [2, 4] _ _ _ ?_
 refine zab [] hst rfl trivial rfl rfl (fun w h => h.1.2) (fun q _ => ?_) (fun q hq => ?_)
 ·obtain ⟨⟨A1, c1, N1⟩, vk, vn, vnm, vla, vlc, vls, vaa, vac, vus⟩ := q
  exact ⟨rfl, rfl⟩
 obtain ⟨⟨A1, c1, N1⟩, vk, vn, vnm, vla, vlc, vls, vaa, vac, vus⟩ := q
 obtain ⟨hq1, _⟩ := hq
 have hq1 : N1 = N0 := hq1
 subst hq1
 refine zai.ent (st' := { s := [(1, .one (.v (.int .i64 k0))), (2, .one (.v (.slice A ns.length c))), (3, .one (.p 0 0)), (7, .one (.p 1 0)), (9, .one (.v (.slice A1 N1 c1)))], m := [(0, .cells 41 ((TT.mk k n s la lc ls aa ac us).cells.map SA.v)), (1, .cells 41 zap)], k := 2, f := [oG A c ns (TT.mk k n s la lc ls aa ac us) []] }) (zaa [(0, .blk 0), (1, .blk 1)] rfl rfl rfl rfl (leB rfl) (rs rfl rfl) (rm rfl rfl) ⟨⟨oG.up _ _ _ _ _, fun w h => ⟨h.2.1, fun l hl => by cases hl⟩⟩, trivial⟩) ?_
 refine zaf zac [5] _ _ _ ?_
 refine zae hrp (fun _ => rfl) (fun w h => ⟨h.1.1.1.1, h.1.1.2⟩) ?_
 rintro r rfl
 refine zae hbp (fun _ => rfl) (fun _ _ => trivial) ?_
 rintro r rfl
 refine zad (fun hc => ?_) (fun hc => ?_)
 ·have hc : decide ((N1 : Int) < (ns.length : Int)) = true := hc
  have := of_decide_eq_true hc
  exact absurd this (by omega)
 refine zae hdp (fun _ => rfl) (fun w h => ⟨h.2.2.1.1.1.1, h.2.2.1.1.1.2⟩) ?_
 rintro r rfl
 refine zai.ent (zgn 11 114 6 rfl) ?_
 refine zai.ent (st' := { s := [(2, .one (.v (.slice A ns.length c))), (3, .one (.p 0 0)), (7, .one (.p 1 0)), (11, .one (.row 2))], m := [(0, .cells 41 ((TT.mk k n s la lc ls aa ac us).cells.map SA.v)), (1, .cells 41 zap), (2, .own 114 6 0 [])], k := 3, f := [oG A c ns (TT.mk k n s la lc ls aa ac us) []] }) (zaa [(0, .blk 0), (1, .blk 1), (2, .own 2)] rfl rfl rfl rfl (leB rfl) ⟨⟨_, rfl, rfl⟩, ⟨_, rfl, rfl⟩, ⟨_, rfl, rfl⟩, ⟨_, rfl, rfl⟩, trivial⟩ ⟨⟨_, rfl, rfl⟩, ⟨_, rfl, rfl⟩, ⟨_, _, rfl, rfl, rfl⟩, trivial⟩ ⟨⟨oG.up _ _ _ _ _, fun w h => h.2.2.2.1⟩, trivial⟩) ?_
 refine zaf zac [7, 14] _ _ _ ?_
 refine ⟨⟨List (ByteArray × TT) × TT, fun q => q.1.length <= ns.length /\ za8 q.2.tm <= 3000 /\ (∀ l ∈ q.1, l.1.size <= maxLen) /\ zfb (q.1.map locM) (zeg (q.1.map Prod.fst) (ns.drop q.1.length) q.2.tm) = some (lr, br), fun q => { s := [(2, .one (.v (.slice A ns.length c))), (3, .one (.p 0 0)), (7, .one (.p 1 0)), (11, .one (.row 2)), (45, .one (.v (.slice A ns.length c))), (46, .one (.v (.int .i64 (ns.length : Int)))), (47, .one (.v (.int .i64 (q.1.length : Int))))], m := [(0, .cells 41 (q.2.cells.map SA.v)), (1, .cells 41 zap), (2, .own 114 6 q.1.length (locC q.1))], k := 3, f := [oG A c ns q.2 q.1] }, fun q => ns.length - q.1.length, ⟨([], (TT.mk k n s la lc ls aa ac us)), ⟨Nat.zero_le _, hz, fun l hl => (by cases hl), ?_⟩, zaa [(0, .blk 0), (1, .blk 1), (2, .own 2)] rfl rfl rfl rfl (leB rfl) ⟨⟨_, rfl, rfl⟩, ⟨_, rfl, rfl⟩, ⟨_, rfl, rfl⟩, ⟨_, rfl, rfl⟩, ⟨_, rfl, rfl⟩, ⟨_, rfl, rfl⟩, ⟨_, rfl, rfl⟩, trivial⟩ ⟨⟨_, rfl, rfl⟩, ⟨_, rfl, rfl⟩, ⟨_, _, rfl, rfl, rfl⟩, trivial⟩ ⟨⟨oG.up _ _ _ _ _, fun w h => h.1⟩, trivial⟩⟩, ?_⟩⟩
 ·show zfb [] (zeg [] ns ((TT.mk k n s la lc ls aa ac us)).tm) = _
  rw [ho]
  rfl
 clear hz hr hk hn hd ho hst hrp hbp hdp
 rintro ⟨dn, t⟩ ⟨hj, hz, hsz, ho⟩
 have hj : dn.length <= ns.length := hj
 have hz : za8 t.tm <= 3000 := hz
 have hsz : ∀ l ∈ dn, l.1.size <= maxLen := hsz
 have ho : zfb (dn.map locM) (zeg (dn.map Prod.fst) (ns.drop dn.length) t.tm) = some (lr, br) := ho
 have hdl : dn.length <= 1000000 := by omega
 have hBs : ∀ u ∈ dn.map locT, tmB u.tm := fun u hu => by
  obtain ⟨l, _, rfl⟩ := List.mem_map.1 hu
  show tmB (zba 4 0 l.1).tm
  unfold zba
  rw [zbs]
  unfold tmB
  refine ⟨by simp, by simp, ?_⟩
  show tmBs []
  unfold tmBs
  trivial
 obtain ⟨k, n, s, la, lc, ls, aa, ac, us⟩ := t
 refine zad (fun hlt0 => ?_) (fun hge0 => ?_)
 rotate_left
 ·have hge : dn.length = ns.length := by
   have h : decide ((dn.length : Int) < (ns.length : Int)) = false := hge0
   have := of_decide_eq_false h
   omega
  rw [List.drop_eq_nil_of_le (by omega), zeg, <- zs6] at ho
  obtain ⟨o, hop⟩ : ∃ o, zjo ((dn.map locT).map TT.tm) ((TT.mk k n s la lc ls aa ac us)).tm = o := ⟨_, rfl⟩
  have hput0 := fun A' cp' => zus ((TT.mk k n s la lc ls aa ac us)) A' cp' (dn.map locT) (zc2 _ hz) hBs
  rw [hop] at ho hput0
  have hll : (dn.map locT).length = dn.length := List.length_map _
  rw [hll] at hput0
  cases o with
  | none => cases ho
  | some typ =>
  have hput := hput0
  obtain ⟨rfl, rfl⟩ : dn.map locM = lr /\ typ = br := by
   simp only [zs2, zfb, Option.some.injEq, Prod.mk.injEq, List.append_nil] at ho
   exact ho
  have hnames : ∀ w, oG A c ns ((TT.mk k n s la lc ls aa ac us)) dn w -> ∀ l ∈ dn, l.1.size <= maxLen := fun _ _ => hsz
  refine zai.ent (st' := { s := [(2, .one (.v (.slice A ns.length c))), (3, .one (.p 0 0)), (7, .one (.p 1 0)), (11, .one (.row 2)), (45, .one (.v (.slice A ns.length c))), (46, .one (.v (.int .i64 (ns.length : Int)))), (47, .one (.v (.int .i64 (dn.length : Int))))], m := [(0, .cells 41 ((TT.mk k n s la lc ls aa ac us).cells.map SA.v)), (1, .cells 41 zap), (2, .own 114 6 dn.length (locC dn))], k := 3, f := [oG A c ns (TT.mk k n s la lc ls aa ac us) dn] }) (zaa [(0, .blk 0), (1, .blk 1), (2, .own 2)] rfl rfl rfl rfl (leB rfl) ⟨⟨_, rfl, rfl⟩, ⟨_, rfl, rfl⟩, ⟨_, rfl, rfl⟩, ⟨_, rfl, rfl⟩, ⟨_, rfl, rfl⟩, ⟨_, rfl, rfl⟩, ⟨_, rfl, rfl⟩, trivial⟩ ⟨⟨_, rfl, rfl⟩, ⟨_, rfl, rfl⟩, ⟨_, _, rfl, rfl, rfl⟩, trivial⟩ ⟨⟨oG.up _ _ _ _ _, fun w h => h.1⟩, trivial⟩) ?_
  refine zai.cutX (X := TT) (fun x => x.tm = typ) (fun x => { s := [(2, .one (.v (.slice A ns.length c))), (3, .one (.p 0 0)), (7, .one (.p 1 0)), (11, .one (.row 2)), (45, .one (.v (.slice A ns.length c))), (46, .one (.v (.int .i64 (ns.length : Int)))), (47, .one (.v (.int .i64 (dn.length : Int)))), (16, .one (.p 3 0)), (17, .one (.v (.bool true)))], m := [(0, .cells 41 ((TT.mk k n s la lc ls aa ac us).cells.map SA.v)), (1, .cells 41 zap), (2, .own 114 6 dn.length (locC dn)), (3, .cells 41 (x.cells.map SA.v))], k := 4, f := [oH A c ns (TT.mk k n s la lc ls aa ac us) dn x] }) (zai.draw zac ?_) (fun x hx => ?_)
  ·skip
   let aS : List (Nat × SV) := [(2, .one (.v (.slice A ns.length c))), (3, .one (.p 0 0)), (7, .one (.p 1 0)), (11, .one (.row 2)), (45, .one (.v (.slice A ns.length c))), (46, .one (.v (.int .i64 (ns.length : Int)))), (47, .one (.v (.int .i64 (dn.length : Int))))]
   let aM : List (Nat × LB) := [(0, .cells 41 ((TT.mk k n s la lc ls aa ac us).cells.map SA.v)), (1, .cells 41 zap), (2, .own 114 6 dn.length (locC dn))]
   let aF : List (World -> Prop) := [oG A c ns (TT.mk k n s la lc ls aa ac us) dn]
   refine ⟨[0, 0, 2, 7, 15, 31, 31, 0, 191, 511], [2, 3, 4, 5, 6, 7, 8, 9], [(0, { dst := some 76, v := .agg ((TT.mk k n s la lc ls aa ac us).cells.map SA.v), p := none, f := none }), (1, { dst := some 77, v := .one (.row 2), p := none, f := none })], by kernel_rfl, rfl, by kernel_rfl, by kernel_rfl, rfl, rfl, rfl, rfl, ?_⟩
   refine zag ({ s := aS, m := aM, k := 3, f := aF }) [2, 7] rfl (by kernel_rfl) (by kernel_rfl) ⟨⟨rfl, rfl⟩, ⟨rfl, rfl⟩, trivial⟩ ⟨?_, ?_, trivial⟩
   ·refine ⟨_, rfl, rfl, OpX.of zac _ rfl ?_⟩
    refine zeu 2 rfl (fun A' cp' => [.one (.v (.slice A' dn.length cp'))]) (fun A' => lcP A' dn) (fun A' cp' _ _ _ => zd1 A' cp' dn hdl) (fun A' cp' x hx => by rw [List.mem_singleton.1 hx]; trivial) (fun e e' A' cp' he => by show [Value.slice A' dn.length cp'] = [e.rv 2]; rw [he]) (fun A' w _ h => h) (fun _ => rfl) (fun _ => rfl) (fun _ _ => ⟨rfl, rfl⟩) (fun _ _ => ?_)
    let x2 : Nat × SV := (78, .one (.row 3))
    let m2 : Nat × LB := (3, .own 41 5 dn.length (ttsC (dn.map locT)))
    let f2a : World -> Prop := fun _ => True
    refine zag ({ s := x2 :: aS, m := m2 :: aM, k := 4, f := f2a :: aF }) [3, 7] rfl (by kernel_rfl) (by kernel_rfl) ⟨⟨rfl, rfl⟩, ⟨rfl, trivial⟩, trivial⟩ ⟨?_, ?_, trivial⟩
    ·refine ⟨_, rfl, rfl, OpX.of zac _ rfl ?_⟩
     refine zdl 3 rfl (fun A' cp' f1 f2 f3 => ?_)
     refine zab [] (hput A' cp') rfl trivial rfl rfl (fun w h => ⟨⟨h.2.2.1.1.1.1, zhk dn f1 f2 f3 h.1 (hnames w h.2.2.1)⟩, h.2.2.1.1.2⟩) (fun x _ => ?_) (fun x hx => ?_)
     ·obtain ⟨vk, vn, vnm, vla, vlc, vls, vaa, vac, vus⟩ := x
      exact ⟨rfl, rfl⟩
     have hx : x.tm = typ := hx
     obtain ⟨vk, vn, vnm, vla, vlc, vls, vaa, vac, vus⟩ := x
     let x3 : Nat × SV := (79, .tup [.agg ((TT.mk vk vn vnm vla vlc vls vaa vac vus).cells.map SA.v), .one (.v (.bool true))])
     let m3 : Nat × LB := (3, .dead)
     let f3a : World -> Prop := fun w => TTIn w (TT.mk vk vn vnm vla vlc vls vaa vac vus)
     let f3b : World -> Prop := fun w => SlAt w A' (ttsC (dn.map locT))
     refine zag ({ s := x3 :: x2 :: aS, m := m3 :: m2 :: aM, k := 4, f := f3a :: f3b :: f2a :: aF }) [4, 7] rfl (by kernel_rfl) (by kernel_rfl) ⟨⟨rfl, trivial⟩, ⟨rfl, trivial⟩, trivial⟩ ⟨?_, ?_, trivial⟩
     ·refine ⟨_, rfl, rfl, OpX.of zac _ rfl ?_⟩
      let x4 : Nat × SV := (75, .tup [.agg ((TT.mk vk vn vnm vla vlc vls vaa vac vus).cells.map SA.v), .one (.v (.bool true))])
      refine zag ({ s := x4 :: x3 :: x2 :: aS, m := m3 :: m2 :: aM, k := 4, f := f3a :: f3b :: f2a :: aF }) [5, 6, 7] rfl (by kernel_rfl) (by kernel_rfl) ⟨⟨rfl, trivial⟩, ⟨rfl, trivial⟩, trivial⟩ ⟨?_, ?_, ?_, trivial⟩
      ·refine ⟨_, rfl, rfl, OpX.of zac _ rfl ?_⟩
       let x5 : Nat × SV := (80, .agg ((TT.mk vk vn vnm vla vlc vls vaa vac vus).cells.map SA.v))
       refine zag ({ s := x5 :: x4 :: x3 :: x2 :: aS, m := m3 :: m2 :: aM, k := 4, f := f3a :: f3b :: f2a :: aF }) [6, 7] rfl (by kernel_rfl) (by kernel_rfl) ⟨⟨rfl, trivial⟩, ⟨rfl, trivial⟩, trivial⟩ ⟨?_, ?_, trivial⟩
       ·refine ⟨_, rfl, rfl, OpX.of zac _ rfl ?_⟩
        let x6 : Nat × SV := (81, .one (.v (.bool true)))
        refine zag ({ s := x6 :: x5 :: x4 :: x3 :: x2 :: aS, m := m3 :: m2 :: aM, k := 4, f := f3a :: f3b :: f2a :: aF }) [7] rfl (by kernel_rfl) (by kernel_rfl) ⟨⟨rfl, trivial⟩, ⟨rfl, trivial⟩, trivial⟩ ⟨?_, trivial⟩
        refine ⟨_, rfl, rfl, OpX.of zac _ rfl ?_⟩
        let x7 : Nat × SV := (16, .one (.p 4 0))
        let m7 : Nat × LB := (4, .cells 41 zap)
        refine zag ({ s := x7 :: x6 :: x5 :: x4 :: x3 :: x2 :: aS, m := m7 :: m3 :: m2 :: aM, k := 5, f := f3a :: f3b :: f2a :: aF }) [8] rfl (by kernel_rfl) (by kernel_rfl) ⟨⟨rfl, trivial⟩, ⟨rfl, trivial⟩, trivial⟩ ⟨?_, trivial⟩
        refine ⟨_, rfl, rfl, OpX.of zac _ rfl ?_⟩
        let m8 : Nat × LB := (4, .cells 41 ((TT.mk vk vn vnm vla vlc vls vaa vac vus).cells.map SA.v))
        refine zag ({ s := x7 :: x6 :: x5 :: x4 :: x3 :: x2 :: aS, m := m8 :: m7 :: m3 :: m2 :: aM, k := 5, f := f3a :: f3b :: f2a :: aF }) [9] rfl (by kernel_rfl) (by kernel_rfl) ⟨⟨rfl, trivial⟩, ⟨rfl, trivial⟩, trivial⟩ ⟨?_, trivial⟩
        refine ⟨_, rfl, rfl, OpX.of zac _ rfl ?_⟩
        let x9 : Nat × SV := (17, .one (.v (.bool true)))
        refine zat _ rfl (by kernel_rfl) ⟨⟨rfl, trivial⟩, ⟨rfl, trivial⟩, trivial⟩ ?_
        exact ⟨(TT.mk vk vn vnm vla vlc vls vaa vac vus), hx, zaa [(0, .blk 0), (1, .blk 1), (2, .own 2), (3, .blk 4)] rfl rfl rfl rfl (leB rfl) ⟨⟨_, rfl, rfl⟩, ⟨_, rfl, rfl⟩, ⟨_, rfl, rfl⟩, ⟨_, rfl, rfl⟩, ⟨_, rfl, rfl⟩, ⟨_, rfl, rfl⟩, ⟨_, rfl, rfl⟩, ⟨_, rfl, rfl⟩, ⟨_, rfl, rfl⟩, trivial⟩ ⟨⟨_, rfl, rfl⟩, ⟨_, rfl, rfl⟩, ⟨_, _, rfl, rfl, rfl⟩, ⟨_, rfl, rfl⟩, trivial⟩ ⟨⟨oH.up _ _ _ _ _ _, fun w h => ⟨h.2.2.2.1, h.1⟩⟩, trivial⟩⟩
       ·refine ⟨_, rfl, rfl, OpX.of zac _ rfl ?_⟩
        let x7 : Nat × SV := (16, .one (.p 4 0))
        let m7 : Nat × LB := (4, .cells 41 zap)
        refine zag ({ s := x7 :: x5 :: x4 :: x3 :: x2 :: aS, m := m7 :: m3 :: m2 :: aM, k := 5, f := f3a :: f3b :: f2a :: aF }) [6, 8] rfl (by kernel_rfl) (by kernel_rfl) ⟨⟨rfl, trivial⟩, ⟨rfl, trivial⟩, trivial⟩ ⟨?_, ?_, trivial⟩
        ·refine ⟨_, rfl, rfl, OpX.of zac _ rfl ?_⟩
         let x6 : Nat × SV := (81, .one (.v (.bool true)))
         refine zag ({ s := x6 :: x7 :: x5 :: x4 :: x3 :: x2 :: aS, m := m7 :: m3 :: m2 :: aM, k := 5, f := f3a :: f3b :: f2a :: aF }) [8] rfl (by kernel_rfl) (by kernel_rfl) ⟨⟨rfl, trivial⟩, ⟨rfl, trivial⟩, trivial⟩ ⟨?_, trivial⟩
         refine ⟨_, rfl, rfl, OpX.of zac _ rfl ?_⟩
         let m8 : Nat × LB := (4, .cells 41 ((TT.mk vk vn vnm vla vlc vls vaa vac vus).cells.map SA.v))
         refine zag ({ s := x6 :: x7 :: x5 :: x4 :: x3 :: x2 :: aS, m := m8 :: m7 :: m3 :: m2 :: aM, k := 5, f := f3a :: f3b :: f2a :: aF }) [9] rfl (by kernel_rfl) (by kernel_rfl) ⟨⟨rfl, trivial⟩, ⟨rfl, trivial⟩, trivial⟩ ⟨?_, trivial⟩
         refine ⟨_, rfl, rfl, OpX.of zac _ rfl ?_⟩
         let x9 : Nat × SV := (17, .one (.v (.bool true)))
         refine zat _ rfl (by kernel_rfl) ⟨⟨rfl, trivial⟩, ⟨rfl, trivial⟩, trivial⟩ ?_
         exact ⟨(TT.mk vk vn vnm vla vlc vls vaa vac vus), hx, zaa [(0, .blk 0), (1, .blk 1), (2, .own 2), (3, .blk 4)] rfl rfl rfl rfl (leB rfl) ⟨⟨_, rfl, rfl⟩, ⟨_, rfl, rfl⟩, ⟨_, rfl, rfl⟩, ⟨_, rfl, rfl⟩, ⟨_, rfl, rfl⟩, ⟨_, rfl, rfl⟩, ⟨_, rfl, rfl⟩, ⟨_, rfl, rfl⟩, ⟨_, rfl, rfl⟩, trivial⟩ ⟨⟨_, rfl, rfl⟩, ⟨_, rfl, rfl⟩, ⟨_, _, rfl, rfl, rfl⟩, ⟨_, rfl, rfl⟩, trivial⟩ ⟨⟨oH.up _ _ _ _ _ _, fun w h => ⟨h.2.2.2.1, h.1⟩⟩, trivial⟩⟩
        ·refine ⟨_, rfl, rfl, OpX.of zac _ rfl ?_⟩
         let m8 : Nat × LB := (4, .cells 41 ((TT.mk vk vn vnm vla vlc vls vaa vac vus).cells.map SA.v))
         refine zag ({ s := x7 :: x5 :: x4 :: x3 :: x2 :: aS, m := m8 :: m7 :: m3 :: m2 :: aM, k := 5, f := f3a :: f3b :: f2a :: aF }) [6] rfl (by kernel_rfl) (by kernel_rfl) ⟨⟨rfl, trivial⟩, ⟨rfl, trivial⟩, trivial⟩ ⟨?_, trivial⟩
         refine ⟨_, rfl, rfl, OpX.of zac _ rfl ?_⟩
         let x6 : Nat × SV := (81, .one (.v (.bool true)))
         refine zag ({ s := x6 :: x7 :: x5 :: x4 :: x3 :: x2 :: aS, m := m8 :: m7 :: m3 :: m2 :: aM, k := 5, f := f3a :: f3b :: f2a :: aF }) [9] rfl (by kernel_rfl) (by kernel_rfl) ⟨⟨rfl, trivial⟩, ⟨rfl, trivial⟩, trivial⟩ ⟨?_, trivial⟩
         refine ⟨_, rfl, rfl, OpX.of zac _ rfl ?_⟩
         let x9 : Nat × SV := (17, .one (.v (.bool true)))
         refine zat _ rfl (by kernel_rfl) ⟨⟨rfl, trivial⟩, ⟨rfl, trivial⟩, trivial⟩ ?_
         exact ⟨(TT.mk vk vn vnm vla vlc vls vaa vac vus), hx, zaa [(0, .blk 0), (1, .blk 1), (2, .own 2), (3, .blk 4)] rfl rfl rfl rfl (leB rfl) ⟨⟨_, rfl, rfl⟩, ⟨_, rfl, rfl⟩, ⟨_, rfl, rfl⟩, ⟨_, rfl, rfl⟩, ⟨_, rfl, rfl⟩, ⟨_, rfl, rfl⟩, ⟨_, rfl, rfl⟩, ⟨_, rfl, rfl⟩, ⟨_, rfl, rfl⟩, trivial⟩ ⟨⟨_, rfl, rfl⟩, ⟨_, rfl, rfl⟩, ⟨_, _, rfl, rfl, rfl⟩, ⟨_, rfl, rfl⟩, trivial⟩ ⟨⟨oH.up _ _ _ _ _ _, fun w h => ⟨h.2.2.2.1, h.1⟩⟩, trivial⟩⟩
      ·refine ⟨_, rfl, rfl, OpX.of zac _ rfl ?_⟩
       let x6 : Nat × SV := (81, .one (.v (.bool true)))
       refine zag ({ s := x6 :: x4 :: x3 :: x2 :: aS, m := m3 :: m2 :: aM, k := 4, f := f3a :: f3b :: f2a :: aF }) [5, 7] rfl (by kernel_rfl) (by kernel_rfl) ⟨⟨rfl, trivial⟩, ⟨rfl, trivial⟩, trivial⟩ ⟨?_, ?_, trivial⟩
       ·refine ⟨_, rfl, rfl, OpX.of zac _ rfl ?_⟩
        let x5 : Nat × SV := (80, .agg ((TT.mk vk vn vnm vla vlc vls vaa vac vus).cells.map SA.v))
        refine zag ({ s := x5 :: x6 :: x4 :: x3 :: x2 :: aS, m := m3 :: m2 :: aM, k := 4, f := f3a :: f3b :: f2a :: aF }) [7] rfl (by kernel_rfl) (by kernel_rfl) ⟨⟨rfl, trivial⟩, ⟨rfl, trivial⟩, trivial⟩ ⟨?_, trivial⟩
        refine ⟨_, rfl, rfl, OpX.of zac _ rfl ?_⟩
        let x7 : Nat × SV := (16, .one (.p 4 0))
        let m7 : Nat × LB := (4, .cells 41 zap)
        refine zag ({ s := x7 :: x5 :: x6 :: x4 :: x3 :: x2 :: aS, m := m7 :: m3 :: m2 :: aM, k := 5, f := f3a :: f3b :: f2a :: aF }) [8] rfl (by kernel_rfl) (by kernel_rfl) ⟨⟨rfl, trivial⟩, ⟨rfl, trivial⟩, trivial⟩ ⟨?_, trivial⟩
        refine ⟨_, rfl, rfl, OpX.of zac _ rfl ?_⟩
        let m8 : Nat × LB := (4, .cells 41 ((TT.mk vk vn vnm vla vlc vls vaa vac vus).cells.map SA.v))
        refine zag ({ s := x7 :: x5 :: x6 :: x4 :: x3 :: x2 :: aS, m := m8 :: m7 :: m3 :: m2 :: aM, k := 5, f := f3a :: f3b :: f2a :: aF }) [9] rfl (by kernel_rfl) (by kernel_rfl) ⟨⟨rfl, trivial⟩, ⟨rfl, trivial⟩, trivial⟩ ⟨?_, trivial⟩
        refine ⟨_, rfl, rfl, OpX.of zac _ rfl ?_⟩
        let x9 : Nat × SV := (17, .one (.v (.bool true)))
        refine zat _ rfl (by kernel_rfl) ⟨⟨rfl, trivial⟩, ⟨rfl, trivial⟩, trivial⟩ ?_
        exact ⟨(TT.mk vk vn vnm vla vlc vls vaa vac vus), hx, zaa [(0, .blk 0), (1, .blk 1), (2, .own 2), (3, .blk 4)] rfl rfl rfl rfl (leB rfl) ⟨⟨_, rfl, rfl⟩, ⟨_, rfl, rfl⟩, ⟨_, rfl, rfl⟩, ⟨_, rfl, rfl⟩, ⟨_, rfl, rfl⟩, ⟨_, rfl, rfl⟩, ⟨_, rfl, rfl⟩, ⟨_, rfl, rfl⟩, ⟨_, rfl, rfl⟩, trivial⟩ ⟨⟨_, rfl, rfl⟩, ⟨_, rfl, rfl⟩, ⟨_, _, rfl, rfl, rfl⟩, ⟨_, rfl, rfl⟩, trivial⟩ ⟨⟨oH.up _ _ _ _ _ _, fun w h => ⟨h.2.2.2.1, h.1⟩⟩, trivial⟩⟩
       ·refine ⟨_, rfl, rfl, OpX.of zac _ rfl ?_⟩
        let x7 : Nat × SV := (16, .one (.p 4 0))
        let m7 : Nat × LB := (4, .cells 41 zap)
        refine zag ({ s := x7 :: x6 :: x4 :: x3 :: x2 :: aS, m := m7 :: m3 :: m2 :: aM, k := 5, f := f3a :: f3b :: f2a :: aF }) [5] rfl (by kernel_rfl) (by kernel_rfl) ⟨⟨rfl, trivial⟩, ⟨rfl, trivial⟩, trivial⟩ ⟨?_, trivial⟩
        refine ⟨_, rfl, rfl, OpX.of zac _ rfl ?_⟩
        let x5 : Nat × SV := (80, .agg ((TT.mk vk vn vnm vla vlc vls vaa vac vus).cells.map SA.v))
        refine zag ({ s := x5 :: x7 :: x6 :: x4 :: x3 :: x2 :: aS, m := m7 :: m3 :: m2 :: aM, k := 5, f := f3a :: f3b :: f2a :: aF }) [8] rfl (by kernel_rfl) (by kernel_rfl) ⟨⟨rfl, trivial⟩, ⟨rfl, trivial⟩, trivial⟩ ⟨?_, trivial⟩
        refine ⟨_, rfl, rfl, OpX.of zac _ rfl ?_⟩
        let m8 : Nat × LB := (4, .cells 41 ((TT.mk vk vn vnm vla vlc vls vaa vac vus).cells.map SA.v))
        refine zag ({ s := x5 :: x7 :: x6 :: x4 :: x3 :: x2 :: aS, m := m8 :: m7 :: m3 :: m2 :: aM, k := 5, f := f3a :: f3b :: f2a :: aF }) [9] rfl (by kernel_rfl) (by kernel_rfl) ⟨⟨rfl, trivial⟩, ⟨rfl, trivial⟩, trivial⟩ ⟨?_, trivial⟩
        refine ⟨_, rfl, rfl, OpX.of zac _ rfl ?_⟩
        let x9 : Nat × SV := (17, .one (.v (.bool true)))
        refine zat _ rfl (by kernel_rfl) ⟨⟨rfl, trivial⟩, ⟨rfl, trivial⟩, trivial⟩ ?_
        exact ⟨(TT.mk vk vn vnm vla vlc vls vaa vac vus), hx, zaa [(0, .blk 0), (1, .blk 1), (2, .own 2), (3, .blk 4)] rfl rfl rfl rfl (leB rfl) ⟨⟨_, rfl, rfl⟩, ⟨_, rfl, rfl⟩, ⟨_, rfl, rfl⟩, ⟨_, rfl, rfl⟩, ⟨_, rfl, rfl⟩, ⟨_, rfl, rfl⟩, ⟨_, rfl, rfl⟩, ⟨_, rfl, rfl⟩, ⟨_, rfl, rfl⟩, trivial⟩ ⟨⟨_, rfl, rfl⟩, ⟨_, rfl, rfl⟩, ⟨_, _, rfl, rfl, rfl⟩, ⟨_, rfl, rfl⟩, trivial⟩ ⟨⟨oH.up _ _ _ _ _ _, fun w h => ⟨h.2.2.2.1, h.1⟩⟩, trivial⟩⟩
      ·refine ⟨_, rfl, rfl, OpX.of zac _ rfl ?_⟩
       let x7 : Nat × SV := (16, .one (.p 4 0))
       let m7 : Nat × LB := (4, .cells 41 zap)
       refine zag ({ s := x7 :: x4 :: x3 :: x2 :: aS, m := m7 :: m3 :: m2 :: aM, k := 5, f := f3a :: f3b :: f2a :: aF }) [5, 6] rfl (by kernel_rfl) (by kernel_rfl) ⟨⟨rfl, trivial⟩, ⟨rfl, trivial⟩, trivial⟩ ⟨?_, ?_, trivial⟩
       ·refine ⟨_, rfl, rfl, OpX.of zac _ rfl ?_⟩
        let x5 : Nat × SV := (80, .agg ((TT.mk vk vn vnm vla vlc vls vaa vac vus).cells.map SA.v))
        refine zag ({ s := x5 :: x7 :: x4 :: x3 :: x2 :: aS, m := m7 :: m3 :: m2 :: aM, k := 5, f := f3a :: f3b :: f2a :: aF }) [6, 8] rfl (by kernel_rfl) (by kernel_rfl) ⟨⟨rfl, trivial⟩, ⟨rfl, trivial⟩, trivial⟩ ⟨?_, ?_, trivial⟩
        ·refine ⟨_, rfl, rfl, OpX.of zac _ rfl ?_⟩
         let x6 : Nat × SV := (81, .one (.v (.bool true)))
         refine zag ({ s := x6 :: x5 :: x7 :: x4 :: x3 :: x2 :: aS, m := m7 :: m3 :: m2 :: aM, k := 5, f := f3a :: f3b :: f2a :: aF }) [8] rfl (by kernel_rfl) (by kernel_rfl) ⟨⟨rfl, trivial⟩, ⟨rfl, trivial⟩, trivial⟩ ⟨?_, trivial⟩
         refine ⟨_, rfl, rfl, OpX.of zac _ rfl ?_⟩
         let m8 : Nat × LB := (4, .cells 41 ((TT.mk vk vn vnm vla vlc vls vaa vac vus).cells.map SA.v))
         refine zag ({ s := x6 :: x5 :: x7 :: x4 :: x3 :: x2 :: aS, m := m8 :: m7 :: m3 :: m2 :: aM, k := 5, f := f3a :: f3b :: f2a :: aF }) [9] rfl (by kernel_rfl) (by kernel_rfl) ⟨⟨rfl, trivial⟩, ⟨rfl, trivial⟩, trivial⟩ ⟨?_, trivial⟩
         refine ⟨_, rfl, rfl, OpX.of zac _ rfl ?_⟩
         let x9 : Nat × SV := (17, .one (.v (.bool true)))
         refine zat _ rfl (by kernel_rfl) ⟨⟨rfl, trivial⟩, ⟨rfl, trivial⟩, trivial⟩ ?_
         exact ⟨(TT.mk vk vn vnm vla vlc vls vaa vac vus), hx, zaa [(0, .blk 0), (1, .blk 1), (2, .own 2), (3, .blk 4)] rfl rfl rfl rfl (leB rfl) ⟨⟨_, rfl, rfl⟩, ⟨_, rfl, rfl⟩, ⟨_, rfl, rfl⟩, ⟨_, rfl, rfl⟩, ⟨_, rfl, rfl⟩, ⟨_, rfl, rfl⟩, ⟨_, rfl, rfl⟩, ⟨_, rfl, rfl⟩, ⟨_, rfl, rfl⟩, trivial⟩ ⟨⟨_, rfl, rfl⟩, ⟨_, rfl, rfl⟩, ⟨_, _, rfl, rfl, rfl⟩, ⟨_, rfl, rfl⟩, trivial⟩ ⟨⟨oH.up _ _ _ _ _ _, fun w h => ⟨h.2.2.2.1, h.1⟩⟩, trivial⟩⟩
        ·refine ⟨_, rfl, rfl, OpX.of zac _ rfl ?_⟩
         let m8 : Nat × LB := (4, .cells 41 ((TT.mk vk vn vnm vla vlc vls vaa vac vus).cells.map SA.v))
         refine zag ({ s := x5 :: x7 :: x4 :: x3 :: x2 :: aS, m := m8 :: m7 :: m3 :: m2 :: aM, k := 5, f := f3a :: f3b :: f2a :: aF }) [6] rfl (by kernel_rfl) (by kernel_rfl) ⟨⟨rfl, trivial⟩, ⟨rfl, trivial⟩, trivial⟩ ⟨?_, trivial⟩
         refine ⟨_, rfl, rfl, OpX.of zac _ rfl ?_⟩
         let x6 : Nat × SV := (81, .one (.v (.bool true)))
         refine zag ({ s := x6 :: x5 :: x7 :: x4 :: x3 :: x2 :: aS, m := m8 :: m7 :: m3 :: m2 :: aM, k := 5, f := f3a :: f3b :: f2a :: aF }) [9] rfl (by kernel_rfl) (by kernel_rfl) ⟨⟨rfl, trivial⟩, ⟨rfl, trivial⟩, trivial⟩ ⟨?_, trivial⟩
         refine ⟨_, rfl, rfl, OpX.of zac _ rfl ?_⟩
         let x9 : Nat × SV := (17, .one (.v (.bool true)))
         refine zat _ rfl (by kernel_rfl) ⟨⟨rfl, trivial⟩, ⟨rfl, trivial⟩, trivial⟩ ?_
         exact ⟨(TT.mk vk vn vnm vla vlc vls vaa vac vus), hx, zaa [(0, .blk 0), (1, .blk 1), (2, .own 2), (3, .blk 4)] rfl rfl rfl rfl (leB rfl) ⟨⟨_, rfl, rfl⟩, ⟨_, rfl, rfl⟩, ⟨_, rfl, rfl⟩, ⟨_, rfl, rfl⟩, ⟨_, rfl, rfl⟩, ⟨_, rfl, rfl⟩, ⟨_, rfl, rfl⟩, ⟨_, rfl, rfl⟩, ⟨_, rfl, rfl⟩, trivial⟩ ⟨⟨_, rfl, rfl⟩, ⟨_, rfl, rfl⟩, ⟨_, _, rfl, rfl, rfl⟩, ⟨_, rfl, rfl⟩, trivial⟩ ⟨⟨oH.up _ _ _ _ _ _, fun w h => ⟨h.2.2.2.1, h.1⟩⟩, trivial⟩⟩
       ·refine ⟨_, rfl, rfl, OpX.of zac _ rfl ?_⟩
        let x6 : Nat × SV := (81, .one (.v (.bool true)))
        refine zag ({ s := x6 :: x7 :: x4 :: x3 :: x2 :: aS, m := m7 :: m3 :: m2 :: aM, k := 5, f := f3a :: f3b :: f2a :: aF }) [5] rfl (by kernel_rfl) (by kernel_rfl) ⟨⟨rfl, trivial⟩, ⟨rfl, trivial⟩, trivial⟩ ⟨?_, trivial⟩
        refine ⟨_, rfl, rfl, OpX.of zac _ rfl ?_⟩
        let x5 : Nat × SV := (80, .agg ((TT.mk vk vn vnm vla vlc vls vaa vac vus).cells.map SA.v))
        refine zag ({ s := x5 :: x6 :: x7 :: x4 :: x3 :: x2 :: aS, m := m7 :: m3 :: m2 :: aM, k := 5, f := f3a :: f3b :: f2a :: aF }) [8] rfl (by kernel_rfl) (by kernel_rfl) ⟨⟨rfl, trivial⟩, ⟨rfl, trivial⟩, trivial⟩ ⟨?_, trivial⟩
        refine ⟨_, rfl, rfl, OpX.of zac _ rfl ?_⟩
        let m8 : Nat × LB := (4, .cells 41 ((TT.mk vk vn vnm vla vlc vls vaa vac vus).cells.map SA.v))
        refine zag ({ s := x5 :: x6 :: x7 :: x4 :: x3 :: x2 :: aS, m := m8 :: m7 :: m3 :: m2 :: aM, k := 5, f := f3a :: f3b :: f2a :: aF }) [9] rfl (by kernel_rfl) (by kernel_rfl) ⟨⟨rfl, trivial⟩, ⟨rfl, trivial⟩, trivial⟩ ⟨?_, trivial⟩
        refine ⟨_, rfl, rfl, OpX.of zac _ rfl ?_⟩
        let x9 : Nat × SV := (17, .one (.v (.bool true)))
        refine zat _ rfl (by kernel_rfl) ⟨⟨rfl, trivial⟩, ⟨rfl, trivial⟩, trivial⟩ ?_
        exact ⟨(TT.mk vk vn vnm vla vlc vls vaa vac vus), hx, zaa [(0, .blk 0), (1, .blk 1), (2, .own 2), (3, .blk 4)] rfl rfl rfl rfl (leB rfl) ⟨⟨_, rfl, rfl⟩, ⟨_, rfl, rfl⟩, ⟨_, rfl, rfl⟩, ⟨_, rfl, rfl⟩, ⟨_, rfl, rfl⟩, ⟨_, rfl, rfl⟩, ⟨_, rfl, rfl⟩, ⟨_, rfl, rfl⟩, ⟨_, rfl, rfl⟩, trivial⟩ ⟨⟨_, rfl, rfl⟩, ⟨_, rfl, rfl⟩, ⟨_, _, rfl, rfl, rfl⟩, ⟨_, rfl, rfl⟩, trivial⟩ ⟨⟨oH.up _ _ _ _ _ _, fun w h => ⟨h.2.2.2.1, h.1⟩⟩, trivial⟩⟩
     ·refine ⟨_, rfl, rfl, OpX.of zac _ rfl ?_⟩
      let x7 : Nat × SV := (16, .one (.p 4 0))
      let m7 : Nat × LB := (4, .cells 41 zap)
      refine zag ({ s := x7 :: x3 :: x2 :: aS, m := m7 :: m3 :: m2 :: aM, k := 5, f := f3a :: f3b :: f2a :: aF }) [4] rfl (by kernel_rfl) (by kernel_rfl) ⟨⟨rfl, trivial⟩, ⟨rfl, trivial⟩, trivial⟩ ⟨?_, trivial⟩
      refine ⟨_, rfl, rfl, OpX.of zac _ rfl ?_⟩
      let x4 : Nat × SV := (75, .tup [.agg ((TT.mk vk vn vnm vla vlc vls vaa vac vus).cells.map SA.v), .one (.v (.bool true))])
      refine zag ({ s := x4 :: x7 :: x3 :: x2 :: aS, m := m7 :: m3 :: m2 :: aM, k := 5, f := f3a :: f3b :: f2a :: aF }) [5, 6] rfl (by kernel_rfl) (by kernel_rfl) ⟨⟨rfl, trivial⟩, ⟨rfl, trivial⟩, trivial⟩ ⟨?_, ?_, trivial⟩
      ·refine ⟨_, rfl, rfl, OpX.of zac _ rfl ?_⟩
       let x5 : Nat × SV := (80, .agg ((TT.mk vk vn vnm vla vlc vls vaa vac vus).cells.map SA.v))
       refine zag ({ s := x5 :: x4 :: x7 :: x3 :: x2 :: aS, m := m7 :: m3 :: m2 :: aM, k := 5, f := f3a :: f3b :: f2a :: aF }) [6, 8] rfl (by kernel_rfl) (by kernel_rfl) ⟨⟨rfl, trivial⟩, ⟨rfl, trivial⟩, trivial⟩ ⟨?_, ?_, trivial⟩
       ·refine ⟨_, rfl, rfl, OpX.of zac _ rfl ?_⟩
        let x6 : Nat × SV := (81, .one (.v (.bool true)))
        refine zag ({ s := x6 :: x5 :: x4 :: x7 :: x3 :: x2 :: aS, m := m7 :: m3 :: m2 :: aM, k := 5, f := f3a :: f3b :: f2a :: aF }) [8] rfl (by kernel_rfl) (by kernel_rfl) ⟨⟨rfl, trivial⟩, ⟨rfl, trivial⟩, trivial⟩ ⟨?_, trivial⟩
        refine ⟨_, rfl, rfl, OpX.of zac _ rfl ?_⟩
        let m8 : Nat × LB := (4, .cells 41 ((TT.mk vk vn vnm vla vlc vls vaa vac vus).cells.map SA.v))
        refine zag ({ s := x6 :: x5 :: x4 :: x7 :: x3 :: x2 :: aS, m := m8 :: m7 :: m3 :: m2 :: aM, k := 5, f := f3a :: f3b :: f2a :: aF }) [9] rfl (by kernel_rfl) (by kernel_rfl) ⟨⟨rfl, trivial⟩, ⟨rfl, trivial⟩, trivial⟩ ⟨?_, trivial⟩
        refine ⟨_, rfl, rfl, OpX.of zac _ rfl ?_⟩
        let x9 : Nat × SV := (17, .one (.v (.bool true)))
        refine zat _ rfl (by kernel_rfl) ⟨⟨rfl, trivial⟩, ⟨rfl, trivial⟩, trivial⟩ ?_
        exact ⟨(TT.mk vk vn vnm vla vlc vls vaa vac vus), hx, zaa [(0, .blk 0), (1, .blk 1), (2, .own 2), (3, .blk 4)] rfl rfl rfl rfl (leB rfl) ⟨⟨_, rfl, rfl⟩, ⟨_, rfl, rfl⟩, ⟨_, rfl, rfl⟩, ⟨_, rfl, rfl⟩, ⟨_, rfl, rfl⟩, ⟨_, rfl, rfl⟩, ⟨_, rfl, rfl⟩, ⟨_, rfl, rfl⟩, ⟨_, rfl, rfl⟩, trivial⟩ ⟨⟨_, rfl, rfl⟩, ⟨_, rfl, rfl⟩, ⟨_, _, rfl, rfl, rfl⟩, ⟨_, rfl, rfl⟩, trivial⟩ ⟨⟨oH.up _ _ _ _ _ _, fun w h => ⟨h.2.2.2.1, h.1⟩⟩, trivial⟩⟩
       ·refine ⟨_, rfl, rfl, OpX.of zac _ rfl ?_⟩
        let m8 : Nat × LB := (4, .cells 41 ((TT.mk vk vn vnm vla vlc vls vaa vac vus).cells.map SA.v))
        refine zag ({ s := x5 :: x4 :: x7 :: x3 :: x2 :: aS, m := m8 :: m7 :: m3 :: m2 :: aM, k := 5, f := f3a :: f3b :: f2a :: aF }) [6] rfl (by kernel_rfl) (by kernel_rfl) ⟨⟨rfl, trivial⟩, ⟨rfl, trivial⟩, trivial⟩ ⟨?_, trivial⟩
        refine ⟨_, rfl, rfl, OpX.of zac _ rfl ?_⟩
        let x6 : Nat × SV := (81, .one (.v (.bool true)))
        refine zag ({ s := x6 :: x5 :: x4 :: x7 :: x3 :: x2 :: aS, m := m8 :: m7 :: m3 :: m2 :: aM, k := 5, f := f3a :: f3b :: f2a :: aF }) [9] rfl (by kernel_rfl) (by kernel_rfl) ⟨⟨rfl, trivial⟩, ⟨rfl, trivial⟩, trivial⟩ ⟨?_, trivial⟩
        refine ⟨_, rfl, rfl, OpX.of zac _ rfl ?_⟩
        let x9 : Nat × SV := (17, .one (.v (.bool true)))
        refine zat _ rfl (by kernel_rfl) ⟨⟨rfl, trivial⟩, ⟨rfl, trivial⟩, trivial⟩ ?_
        exact ⟨(TT.mk vk vn vnm vla vlc vls vaa vac vus), hx, zaa [(0, .blk 0), (1, .blk 1), (2, .own 2), (3, .blk 4)] rfl rfl rfl rfl (leB rfl) ⟨⟨_, rfl, rfl⟩, ⟨_, rfl, rfl⟩, ⟨_, rfl, rfl⟩, ⟨_, rfl, rfl⟩, ⟨_, rfl, rfl⟩, ⟨_, rfl, rfl⟩, ⟨_, rfl, rfl⟩, ⟨_, rfl, rfl⟩, ⟨_, rfl, rfl⟩, trivial⟩ ⟨⟨_, rfl, rfl⟩, ⟨_, rfl, rfl⟩, ⟨_, _, rfl, rfl, rfl⟩, ⟨_, rfl, rfl⟩, trivial⟩ ⟨⟨oH.up _ _ _ _ _ _, fun w h => ⟨h.2.2.2.1, h.1⟩⟩, trivial⟩⟩
      ·refine ⟨_, rfl, rfl, OpX.of zac _ rfl ?_⟩
       let x6 : Nat × SV := (81, .one (.v (.bool true)))
       refine zag ({ s := x6 :: x4 :: x7 :: x3 :: x2 :: aS, m := m7 :: m3 :: m2 :: aM, k := 5, f := f3a :: f3b :: f2a :: aF }) [5] rfl (by kernel_rfl) (by kernel_rfl) ⟨⟨rfl, trivial⟩, ⟨rfl, trivial⟩, trivial⟩ ⟨?_, trivial⟩
       refine ⟨_, rfl, rfl, OpX.of zac _ rfl ?_⟩
       let x5 : Nat × SV := (80, .agg ((TT.mk vk vn vnm vla vlc vls vaa vac vus).cells.map SA.v))
       refine zag ({ s := x5 :: x6 :: x4 :: x7 :: x3 :: x2 :: aS, m := m7 :: m3 :: m2 :: aM, k := 5, f := f3a :: f3b :: f2a :: aF }) [8] rfl (by kernel_rfl) (by kernel_rfl) ⟨⟨rfl, trivial⟩, ⟨rfl, trivial⟩, trivial⟩ ⟨?_, trivial⟩
       refine ⟨_, rfl, rfl, OpX.of zac _ rfl ?_⟩
       let m8 : Nat × LB := (4, .cells 41 ((TT.mk vk vn vnm vla vlc vls vaa vac vus).cells.map SA.v))
       refine zag ({ s := x5 :: x6 :: x4 :: x7 :: x3 :: x2 :: aS, m := m8 :: m7 :: m3 :: m2 :: aM, k := 5, f := f3a :: f3b :: f2a :: aF }) [9] rfl (by kernel_rfl) (by kernel_rfl) ⟨⟨rfl, trivial⟩, ⟨rfl, trivial⟩, trivial⟩ ⟨?_, trivial⟩
       refine ⟨_, rfl, rfl, OpX.of zac _ rfl ?_⟩
       let x9 : Nat × SV := (17, .one (.v (.bool true)))
       refine zat _ rfl (by kernel_rfl) ⟨⟨rfl, trivial⟩, ⟨rfl, trivial⟩, trivial⟩ ?_
       exact ⟨(TT.mk vk vn vnm vla vlc vls vaa vac vus), hx, zaa [(0, .blk 0), (1, .blk 1), (2, .own 2), (3, .blk 4)] rfl rfl rfl rfl (leB rfl) ⟨⟨_, rfl, rfl⟩, ⟨_, rfl, rfl⟩, ⟨_, rfl, rfl⟩, ⟨_, rfl, rfl⟩, ⟨_, rfl, rfl⟩, ⟨_, rfl, rfl⟩, ⟨_, rfl, rfl⟩, ⟨_, rfl, rfl⟩, ⟨_, rfl, rfl⟩, trivial⟩ ⟨⟨_, rfl, rfl⟩, ⟨_, rfl, rfl⟩, ⟨_, _, rfl, rfl, rfl⟩, ⟨_, rfl, rfl⟩, trivial⟩ ⟨⟨oH.up _ _ _ _ _ _, fun w h => ⟨h.2.2.2.1, h.1⟩⟩, trivial⟩⟩
    ·refine ⟨_, rfl, rfl, OpX.of zac _ rfl ?_⟩
     let x7 : Nat × SV := (16, .one (.p 4 0))
     let m7 : Nat × LB := (4, .cells 41 zap)
     refine zag ({ s := x7 :: x2 :: aS, m := m7 :: m2 :: aM, k := 5, f := f2a :: aF }) [3] rfl (by kernel_rfl) (by kernel_rfl) ⟨⟨rfl, rfl⟩, ⟨rfl, trivial⟩, trivial⟩ ⟨?_, trivial⟩
     refine ⟨_, rfl, rfl, OpX.of zac _ rfl ?_⟩
     refine zdl 3 rfl (fun A' cp' f1 f2 f3 => ?_)
     refine zab [] (hput A' cp') rfl trivial rfl rfl (fun w h => ⟨⟨h.2.2.1.1.1.1, zhk dn f1 f2 f3 h.1 (hnames w h.2.2.1)⟩, h.2.2.1.1.2⟩) (fun x _ => ?_) (fun x hx => ?_)
     ·obtain ⟨vk, vn, vnm, vla, vlc, vls, vaa, vac, vus⟩ := x
      exact ⟨rfl, rfl⟩
     have hx : x.tm = typ := hx
     obtain ⟨vk, vn, vnm, vla, vlc, vls, vaa, vac, vus⟩ := x
     let x3 : Nat × SV := (79, .tup [.agg ((TT.mk vk vn vnm vla vlc vls vaa vac vus).cells.map SA.v), .one (.v (.bool true))])
     let m3 : Nat × LB := (3, .dead)
     let f3a : World -> Prop := fun w => TTIn w (TT.mk vk vn vnm vla vlc vls vaa vac vus)
     let f3b : World -> Prop := fun w => SlAt w A' (ttsC (dn.map locT))
     refine zag ({ s := x3 :: x7 :: x2 :: aS, m := m3 :: m7 :: m2 :: aM, k := 5, f := f3a :: f3b :: f2a :: aF }) [4] rfl (by kernel_rfl) (by kernel_rfl) ⟨⟨rfl, trivial⟩, ⟨rfl, trivial⟩, trivial⟩ ⟨?_, trivial⟩
     refine ⟨_, rfl, rfl, OpX.of zac _ rfl ?_⟩
     let x4 : Nat × SV := (75, .tup [.agg ((TT.mk vk vn vnm vla vlc vls vaa vac vus).cells.map SA.v), .one (.v (.bool true))])
     refine zag ({ s := x4 :: x3 :: x7 :: x2 :: aS, m := m3 :: m7 :: m2 :: aM, k := 5, f := f3a :: f3b :: f2a :: aF }) [5, 6] rfl (by kernel_rfl) (by kernel_rfl) ⟨⟨rfl, trivial⟩, ⟨rfl, trivial⟩, trivial⟩ ⟨?_, ?_, trivial⟩
     ·refine ⟨_, rfl, rfl, OpX.of zac _ rfl ?_⟩
      let x5 : Nat × SV := (80, .agg ((TT.mk vk vn vnm vla vlc vls vaa vac vus).cells.map SA.v))
      refine zag ({ s := x5 :: x4 :: x3 :: x7 :: x2 :: aS, m := m3 :: m7 :: m2 :: aM, k := 5, f := f3a :: f3b :: f2a :: aF }) [6, 8] rfl (by kernel_rfl) (by kernel_rfl) ⟨⟨rfl, trivial⟩, ⟨rfl, trivial⟩, trivial⟩ ⟨?_, ?_, trivial⟩
      ·refine ⟨_, rfl, rfl, OpX.of zac _ rfl ?_⟩
       let x6 : Nat × SV := (81, .one (.v (.bool true)))
       refine zag ({ s := x6 :: x5 :: x4 :: x3 :: x7 :: x2 :: aS, m := m3 :: m7 :: m2 :: aM, k := 5, f := f3a :: f3b :: f2a :: aF }) [8] rfl (by kernel_rfl) (by kernel_rfl) ⟨⟨rfl, trivial⟩, ⟨rfl, trivial⟩, trivial⟩ ⟨?_, trivial⟩
       refine ⟨_, rfl, rfl, OpX.of zac _ rfl ?_⟩
       let m8 : Nat × LB := (4, .cells 41 ((TT.mk vk vn vnm vla vlc vls vaa vac vus).cells.map SA.v))
       refine zag ({ s := x6 :: x5 :: x4 :: x3 :: x7 :: x2 :: aS, m := m8 :: m3 :: m7 :: m2 :: aM, k := 5, f := f3a :: f3b :: f2a :: aF }) [9] rfl (by kernel_rfl) (by kernel_rfl) ⟨⟨rfl, trivial⟩, ⟨rfl, trivial⟩, trivial⟩ ⟨?_, trivial⟩
       refine ⟨_, rfl, rfl, OpX.of zac _ rfl ?_⟩
       let x9 : Nat × SV := (17, .one (.v (.bool true)))
       refine zat _ rfl (by kernel_rfl) ⟨⟨rfl, trivial⟩, ⟨rfl, trivial⟩, trivial⟩ ?_
       exact ⟨(TT.mk vk vn vnm vla vlc vls vaa vac vus), hx, zaa [(0, .blk 0), (1, .blk 1), (2, .own 2), (3, .blk 4)] rfl rfl rfl rfl (leB rfl) ⟨⟨_, rfl, rfl⟩, ⟨_, rfl, rfl⟩, ⟨_, rfl, rfl⟩, ⟨_, rfl, rfl⟩, ⟨_, rfl, rfl⟩, ⟨_, rfl, rfl⟩, ⟨_, rfl, rfl⟩, ⟨_, rfl, rfl⟩, ⟨_, rfl, rfl⟩, trivial⟩ ⟨⟨_, rfl, rfl⟩, ⟨_, rfl, rfl⟩, ⟨_, _, rfl, rfl, rfl⟩, ⟨_, rfl, rfl⟩, trivial⟩ ⟨⟨oH.up _ _ _ _ _ _, fun w h => ⟨h.2.2.2.1, h.1⟩⟩, trivial⟩⟩
      ·refine ⟨_, rfl, rfl, OpX.of zac _ rfl ?_⟩
       let m8 : Nat × LB := (4, .cells 41 ((TT.mk vk vn vnm vla vlc vls vaa vac vus).cells.map SA.v))
       refine zag ({ s := x5 :: x4 :: x3 :: x7 :: x2 :: aS, m := m8 :: m3 :: m7 :: m2 :: aM, k := 5, f := f3a :: f3b :: f2a :: aF }) [6] rfl (by kernel_rfl) (by kernel_rfl) ⟨⟨rfl, trivial⟩, ⟨rfl, trivial⟩, trivial⟩ ⟨?_, trivial⟩
       refine ⟨_, rfl, rfl, OpX.of zac _ rfl ?_⟩
       let x6 : Nat × SV := (81, .one (.v (.bool true)))
       refine zag ({ s := x6 :: x5 :: x4 :: x3 :: x7 :: x2 :: aS, m := m8 :: m3 :: m7 :: m2 :: aM, k := 5, f := f3a :: f3b :: f2a :: aF }) [9] rfl (by kernel_rfl) (by kernel_rfl) ⟨⟨rfl, trivial⟩, ⟨rfl, trivial⟩, trivial⟩ ⟨?_, trivial⟩
       refine ⟨_, rfl, rfl, OpX.of zac _ rfl ?_⟩
       let x9 : Nat × SV := (17, .one (.v (.bool true)))
       refine zat _ rfl (by kernel_rfl) ⟨⟨rfl, trivial⟩, ⟨rfl, trivial⟩, trivial⟩ ?_
       exact ⟨(TT.mk vk vn vnm vla vlc vls vaa vac vus), hx, zaa [(0, .blk 0), (1, .blk 1), (2, .own 2), (3, .blk 4)] rfl rfl rfl rfl (leB rfl) ⟨⟨_, rfl, rfl⟩, ⟨_, rfl, rfl⟩, ⟨_, rfl, rfl⟩, ⟨_, rfl, rfl⟩, ⟨_, rfl, rfl⟩, ⟨_, rfl, rfl⟩, ⟨_, rfl, rfl⟩, ⟨_, rfl, rfl⟩, ⟨_, rfl, rfl⟩, trivial⟩ ⟨⟨_, rfl, rfl⟩, ⟨_, rfl, rfl⟩, ⟨_, _, rfl, rfl, rfl⟩, ⟨_, rfl, rfl⟩, trivial⟩ ⟨⟨oH.up _ _ _ _ _ _, fun w h => ⟨h.2.2.2.1, h.1⟩⟩, trivial⟩⟩
     ·refine ⟨_, rfl, rfl, OpX.of zac _ rfl ?_⟩
      let x6 : Nat × SV := (81, .one (.v (.bool true)))
      refine zag ({ s := x6 :: x4 :: x3 :: x7 :: x2 :: aS, m := m3 :: m7 :: m2 :: aM, k := 5, f := f3a :: f3b :: f2a :: aF }) [5] rfl (by kernel_rfl) (by kernel_rfl) ⟨⟨rfl, trivial⟩, ⟨rfl, trivial⟩, trivial⟩ ⟨?_, trivial⟩
      refine ⟨_, rfl, rfl, OpX.of zac _ rfl ?_⟩
      let x5 : Nat × SV := (80, .agg ((TT.mk vk vn vnm vla vlc vls vaa vac vus).cells.map SA.v))
      refine zag ({ s := x5 :: x6 :: x4 :: x3 :: x7 :: x2 :: aS, m := m3 :: m7 :: m2 :: aM, k := 5, f := f3a :: f3b :: f2a :: aF }) [8] rfl (by kernel_rfl) (by kernel_rfl) ⟨⟨rfl, trivial⟩, ⟨rfl, trivial⟩, trivial⟩ ⟨?_, trivial⟩
      refine ⟨_, rfl, rfl, OpX.of zac _ rfl ?_⟩
      let m8 : Nat × LB := (4, .cells 41 ((TT.mk vk vn vnm vla vlc vls vaa vac vus).cells.map SA.v))
      refine zag ({ s := x5 :: x6 :: x4 :: x3 :: x7 :: x2 :: aS, m := m8 :: m3 :: m7 :: m2 :: aM, k := 5, f := f3a :: f3b :: f2a :: aF }) [9] rfl (by kernel_rfl) (by kernel_rfl) ⟨⟨rfl, trivial⟩, ⟨rfl, trivial⟩, trivial⟩ ⟨?_, trivial⟩
      refine ⟨_, rfl, rfl, OpX.of zac _ rfl ?_⟩
      let x9 : Nat × SV := (17, .one (.v (.bool true)))
      refine zat _ rfl (by kernel_rfl) ⟨⟨rfl, trivial⟩, ⟨rfl, trivial⟩, trivial⟩ ?_
      exact ⟨(TT.mk vk vn vnm vla vlc vls vaa vac vus), hx, zaa [(0, .blk 0), (1, .blk 1), (2, .own 2), (3, .blk 4)] rfl rfl rfl rfl (leB rfl) ⟨⟨_, rfl, rfl⟩, ⟨_, rfl, rfl⟩, ⟨_, rfl, rfl⟩, ⟨_, rfl, rfl⟩, ⟨_, rfl, rfl⟩, ⟨_, rfl, rfl⟩, ⟨_, rfl, rfl⟩, ⟨_, rfl, rfl⟩, ⟨_, rfl, rfl⟩, trivial⟩ ⟨⟨_, rfl, rfl⟩, ⟨_, rfl, rfl⟩, ⟨_, _, rfl, rfl, rfl⟩, ⟨_, rfl, rfl⟩, trivial⟩ ⟨⟨oH.up _ _ _ _ _ _, fun w h => ⟨h.2.2.2.1, h.1⟩⟩, trivial⟩⟩
   ·refine ⟨_, rfl, rfl, OpX.of zac _ rfl ?_⟩
    let x7 : Nat × SV := (16, .one (.p 3 0))
    let m7 : Nat × LB := (3, .cells 41 zap)
    refine zag ({ s := x7 :: aS, m := m7 :: aM, k := 4, f := aF }) [2] rfl (by kernel_rfl) (by kernel_rfl) ⟨⟨rfl, rfl⟩, ⟨rfl, rfl⟩, trivial⟩ ⟨?_, trivial⟩
    refine ⟨_, rfl, rfl, OpX.of zac _ rfl ?_⟩
    refine zeu 2 rfl (fun A' cp' => [.one (.v (.slice A' dn.length cp'))]) (fun A' => lcP A' dn) (fun A' cp' _ _ _ => zd1 A' cp' dn hdl) (fun A' cp' x hx => by rw [List.mem_singleton.1 hx]; trivial) (fun e e' A' cp' he => by show [Value.slice A' dn.length cp'] = [e.rv 2]; rw [he]) (fun A' w _ h => h) (fun _ => rfl) (fun _ => rfl) (fun _ _ => ⟨rfl, rfl⟩) (fun _ _ => ?_)
    let x2 : Nat × SV := (78, .one (.row 4))
    let m2 : Nat × LB := (4, .own 41 5 dn.length (ttsC (dn.map locT)))
    let f2a : World -> Prop := fun _ => True
    refine zag ({ s := x2 :: x7 :: aS, m := m2 :: m7 :: aM, k := 5, f := f2a :: aF }) [3] rfl (by kernel_rfl) (by kernel_rfl) ⟨⟨rfl, rfl⟩, ⟨rfl, trivial⟩, trivial⟩ ⟨?_, trivial⟩
    refine ⟨_, rfl, rfl, OpX.of zac _ rfl ?_⟩
    refine zdl 4 rfl (fun A' cp' f1 f2 f3 => ?_)
    refine zab [] (hput A' cp') rfl trivial rfl rfl (fun w h => ⟨⟨h.2.2.1.1.1.1, zhk dn f1 f2 f3 h.1 (hnames w h.2.2.1)⟩, h.2.2.1.1.2⟩) (fun x _ => ?_) (fun x hx => ?_)
    ·obtain ⟨vk, vn, vnm, vla, vlc, vls, vaa, vac, vus⟩ := x
     exact ⟨rfl, rfl⟩
    have hx : x.tm = typ := hx
    obtain ⟨vk, vn, vnm, vla, vlc, vls, vaa, vac, vus⟩ := x
    let x3 : Nat × SV := (79, .tup [.agg ((TT.mk vk vn vnm vla vlc vls vaa vac vus).cells.map SA.v), .one (.v (.bool true))])
    let m3 : Nat × LB := (4, .dead)
    let f3a : World -> Prop := fun w => TTIn w (TT.mk vk vn vnm vla vlc vls vaa vac vus)
    let f3b : World -> Prop := fun w => SlAt w A' (ttsC (dn.map locT))
    refine zag ({ s := x3 :: x2 :: x7 :: aS, m := m3 :: m2 :: m7 :: aM, k := 5, f := f3a :: f3b :: f2a :: aF }) [4] rfl (by kernel_rfl) (by kernel_rfl) ⟨⟨rfl, trivial⟩, ⟨rfl, trivial⟩, trivial⟩ ⟨?_, trivial⟩
    refine ⟨_, rfl, rfl, OpX.of zac _ rfl ?_⟩
    let x4 : Nat × SV := (75, .tup [.agg ((TT.mk vk vn vnm vla vlc vls vaa vac vus).cells.map SA.v), .one (.v (.bool true))])
    refine zag ({ s := x4 :: x3 :: x2 :: x7 :: aS, m := m3 :: m2 :: m7 :: aM, k := 5, f := f3a :: f3b :: f2a :: aF }) [5, 6] rfl (by kernel_rfl) (by kernel_rfl) ⟨⟨rfl, trivial⟩, ⟨rfl, trivial⟩, trivial⟩ ⟨?_, ?_, trivial⟩
    ·refine ⟨_, rfl, rfl, OpX.of zac _ rfl ?_⟩
     let x5 : Nat × SV := (80, .agg ((TT.mk vk vn vnm vla vlc vls vaa vac vus).cells.map SA.v))
     refine zag ({ s := x5 :: x4 :: x3 :: x2 :: x7 :: aS, m := m3 :: m2 :: m7 :: aM, k := 5, f := f3a :: f3b :: f2a :: aF }) [6, 8] rfl (by kernel_rfl) (by kernel_rfl) ⟨⟨rfl, trivial⟩, ⟨rfl, trivial⟩, trivial⟩ ⟨?_, ?_, trivial⟩
     ·refine ⟨_, rfl, rfl, OpX.of zac _ rfl ?_⟩
      let x6 : Nat × SV := (81, .one (.v (.bool true)))
      refine zag ({ s := x6 :: x5 :: x4 :: x3 :: x2 :: x7 :: aS, m := m3 :: m2 :: m7 :: aM, k := 5, f := f3a :: f3b :: f2a :: aF }) [8] rfl (by kernel_rfl) (by kernel_rfl) ⟨⟨rfl, trivial⟩, ⟨rfl, trivial⟩, trivial⟩ ⟨?_, trivial⟩
      refine ⟨_, rfl, rfl, OpX.of zac _ rfl ?_⟩
      let m8 : Nat × LB := (3, .cells 41 ((TT.mk vk vn vnm vla vlc vls vaa vac vus).cells.map SA.v))
      refine zag ({ s := x6 :: x5 :: x4 :: x3 :: x2 :: x7 :: aS, m := m8 :: m3 :: m2 :: m7 :: aM, k := 5, f := f3a :: f3b :: f2a :: aF }) [9] rfl (by kernel_rfl) (by kernel_rfl) ⟨⟨rfl, trivial⟩, ⟨rfl, trivial⟩, trivial⟩ ⟨?_, trivial⟩
      refine ⟨_, rfl, rfl, OpX.of zac _ rfl ?_⟩
      let x9 : Nat × SV := (17, .one (.v (.bool true)))
      refine zat _ rfl (by kernel_rfl) ⟨⟨rfl, trivial⟩, ⟨rfl, trivial⟩, trivial⟩ ?_
      exact ⟨(TT.mk vk vn vnm vla vlc vls vaa vac vus), hx, zaa [(0, .blk 0), (1, .blk 1), (2, .own 2), (3, .blk 3)] rfl rfl rfl rfl (leB rfl) ⟨⟨_, rfl, rfl⟩, ⟨_, rfl, rfl⟩, ⟨_, rfl, rfl⟩, ⟨_, rfl, rfl⟩, ⟨_, rfl, rfl⟩, ⟨_, rfl, rfl⟩, ⟨_, rfl, rfl⟩, ⟨_, rfl, rfl⟩, ⟨_, rfl, rfl⟩, trivial⟩ ⟨⟨_, rfl, rfl⟩, ⟨_, rfl, rfl⟩, ⟨_, _, rfl, rfl, rfl⟩, ⟨_, rfl, rfl⟩, trivial⟩ ⟨⟨oH.up _ _ _ _ _ _, fun w h => ⟨h.2.2.2.1, h.1⟩⟩, trivial⟩⟩
     ·refine ⟨_, rfl, rfl, OpX.of zac _ rfl ?_⟩
      let m8 : Nat × LB := (3, .cells 41 ((TT.mk vk vn vnm vla vlc vls vaa vac vus).cells.map SA.v))
      refine zag ({ s := x5 :: x4 :: x3 :: x2 :: x7 :: aS, m := m8 :: m3 :: m2 :: m7 :: aM, k := 5, f := f3a :: f3b :: f2a :: aF }) [6] rfl (by kernel_rfl) (by kernel_rfl) ⟨⟨rfl, trivial⟩, ⟨rfl, trivial⟩, trivial⟩ ⟨?_, trivial⟩
      refine ⟨_, rfl, rfl, OpX.of zac _ rfl ?_⟩
      let x6 : Nat × SV := (81, .one (.v (.bool true)))
      refine zag ({ s := x6 :: x5 :: x4 :: x3 :: x2 :: x7 :: aS, m := m8 :: m3 :: m2 :: m7 :: aM, k := 5, f := f3a :: f3b :: f2a :: aF }) [9] rfl (by kernel_rfl) (by kernel_rfl) ⟨⟨rfl, trivial⟩, ⟨rfl, trivial⟩, trivial⟩ ⟨?_, trivial⟩
      refine ⟨_, rfl, rfl, OpX.of zac _ rfl ?_⟩
      let x9 : Nat × SV := (17, .one (.v (.bool true)))
      refine zat _ rfl (by kernel_rfl) ⟨⟨rfl, trivial⟩, ⟨rfl, trivial⟩, trivial⟩ ?_
      exact ⟨(TT.mk vk vn vnm vla vlc vls vaa vac vus), hx, zaa [(0, .blk 0), (1, .blk 1), (2, .own 2), (3, .blk 3)] rfl rfl rfl rfl (leB rfl) ⟨⟨_, rfl, rfl⟩, ⟨_, rfl, rfl⟩, ⟨_, rfl, rfl⟩, ⟨_, rfl, rfl⟩, ⟨_, rfl, rfl⟩, ⟨_, rfl, rfl⟩, ⟨_, rfl, rfl⟩, ⟨_, rfl, rfl⟩, ⟨_, rfl, rfl⟩, trivial⟩ ⟨⟨_, rfl, rfl⟩, ⟨_, rfl, rfl⟩, ⟨_, _, rfl, rfl, rfl⟩, ⟨_, rfl, rfl⟩, trivial⟩ ⟨⟨oH.up _ _ _ _ _ _, fun w h => ⟨h.2.2.2.1, h.1⟩⟩, trivial⟩⟩
    ·refine ⟨_, rfl, rfl, OpX.of zac _ rfl ?_⟩
     let x6 : Nat × SV := (81, .one (.v (.bool true)))
     refine zag ({ s := x6 :: x4 :: x3 :: x2 :: x7 :: aS, m := m3 :: m2 :: m7 :: aM, k := 5, f := f3a :: f3b :: f2a :: aF }) [5] rfl (by kernel_rfl) (by kernel_rfl) ⟨⟨rfl, trivial⟩, ⟨rfl, trivial⟩, trivial⟩ ⟨?_, trivial⟩
     refine ⟨_, rfl, rfl, OpX.of zac _ rfl ?_⟩
     let x5 : Nat × SV := (80, .agg ((TT.mk vk vn vnm vla vlc vls vaa vac vus).cells.map SA.v))
     refine zag ({ s := x5 :: x6 :: x4 :: x3 :: x2 :: x7 :: aS, m := m3 :: m2 :: m7 :: aM, k := 5, f := f3a :: f3b :: f2a :: aF }) [8] rfl (by kernel_rfl) (by kernel_rfl) ⟨⟨rfl, trivial⟩, ⟨rfl, trivial⟩, trivial⟩ ⟨?_, trivial⟩
     refine ⟨_, rfl, rfl, OpX.of zac _ rfl ?_⟩
     let m8 : Nat × LB := (3, .cells 41 ((TT.mk vk vn vnm vla vlc vls vaa vac vus).cells.map SA.v))
     refine zag ({ s := x5 :: x6 :: x4 :: x3 :: x2 :: x7 :: aS, m := m8 :: m3 :: m2 :: m7 :: aM, k := 5, f := f3a :: f3b :: f2a :: aF }) [9] rfl (by kernel_rfl) (by kernel_rfl) ⟨⟨rfl, trivial⟩, ⟨rfl, trivial⟩, trivial⟩ ⟨?_, trivial⟩
     refine ⟨_, rfl, rfl, OpX.of zac _ rfl ?_⟩
     let x9 : Nat × SV := (17, .one (.v (.bool true)))
     refine zat _ rfl (by kernel_rfl) ⟨⟨rfl, trivial⟩, ⟨rfl, trivial⟩, trivial⟩ ?_
     exact ⟨(TT.mk vk vn vnm vla vlc vls vaa vac vus), hx, zaa [(0, .blk 0), (1, .blk 1), (2, .own 2), (3, .blk 3)] rfl rfl rfl rfl (leB rfl) ⟨⟨_, rfl, rfl⟩, ⟨_, rfl, rfl⟩, ⟨_, rfl, rfl⟩, ⟨_, rfl, rfl⟩, ⟨_, rfl, rfl⟩, ⟨_, rfl, rfl⟩, ⟨_, rfl, rfl⟩, ⟨_, rfl, rfl⟩, ⟨_, rfl, rfl⟩, trivial⟩ ⟨⟨_, rfl, rfl⟩, ⟨_, rfl, rfl⟩, ⟨_, _, rfl, rfl, rfl⟩, ⟨_, rfl, rfl⟩, trivial⟩ ⟨⟨oH.up _ _ _ _ _ _, fun w h => ⟨h.2.2.2.1, h.1⟩⟩, trivial⟩⟩
  obtain ⟨vk, vn, vnm, vla, vlc, vls, vaa, vac, vus⟩ := x
  refine zaf zac [17] _ _ _ ?_
  refine zai.freeze 2 rfl (fun A' cp' f1 f2 f3 => ?_)
  refine zai.ent (st' := { s := [(7, .one (.p 0 0)), (11, .one (.v (.slice A' dn.length cp'))), (16, .one (.p 1 0))], m := [(0, .cells 41 zap), (1, .cells 41 ((TT.mk vk vn vnm vla vlc vls vaa vac vus).cells.map SA.v))], k := 2, f := [zel A' dn (TT.mk vk vn vnm vla vlc vls vaa vac vus)] }) (zaa [(0, .blk 1), (1, .blk 3)] rfl rfl rfl rfl (leB rfl) (rs rfl rfl) (rm rfl rfl) ⟨⟨zel.up _ _ _, fun w h => ⟨⟨h.1, h.2.1.1.2⟩, h.2.1.2⟩⟩, trivial⟩) ?_
  refine zaf zac [] _ _ _ ?_
  let gS : List (Nat × SV) := [(7, .one (.p 0 0)), (11, .one (.v (.slice A' dn.length cp'))), (16, .one (.p 1 0))]
  let gM : List (Nat × LB) := [(0, .cells 41 zap), (1, .cells 41 ((TT.mk vk vn vnm vla vlc vls vaa vac vus).cells.map SA.v))]
  let gF : List (World -> Prop) := [zel A' dn (TT.mk vk vn vnm vla vlc vls vaa vac vus)]
  let x2 : Nat × SV := (6, .one (.v (.slice A' dn.length cp')))
  let m3a : Nat × LB := (0, .cells 41 ((TT.mk vk vn vnm vla vlc vls vaa vac vus).cells.map SA.v))
  let x4 : Nat × SV := (8, .one (.v (.bool true)))
  refine .inr ⟨[0, 0, 1, 7, 15], [2, 3, 4], [(0, { dst := some 85, v := .one (.v (.slice A' dn.length cp')), p := none, f := none }), (1, { dst := some 86, v := ttA (TT.mk vk vn vnm vla vlc vls vaa vac vus), p := none, f := none })], by kernel_rfl, rfl, by kernel_rfl, by kernel_rfl, rfl, rfl, rfl, rfl, ?_⟩
  refine zam ({ s := gS, m := gM, k := 2, f := gF }) [2] rfl (by kernel_rfl) (by kernel_rfl) ⟨⟨rfl, rfl⟩, ⟨rfl, rfl⟩, trivial⟩ ⟨?_, trivial⟩
  refine ⟨_, rfl, rfl, _, rfl, ?_⟩
  refine zam ({ s := x2 :: gS, m := gM, k := 2, f := gF }) [3] rfl (by kernel_rfl) (by kernel_rfl) ⟨⟨rfl, trivial⟩, ⟨rfl, rfl⟩, trivial⟩ ⟨?_, trivial⟩
  refine ⟨_, rfl, rfl, _, rfl, ?_⟩
  refine zam ({ s := x2 :: gS, m := m3a :: gM, k := 2, f := gF }) [4] rfl (by kernel_rfl) (by kernel_rfl) ⟨⟨rfl, trivial⟩, ⟨rfl, trivial⟩, trivial⟩ ⟨?_, trivial⟩
  refine ⟨_, rfl, rfl, _, rfl, ?_⟩
  refine zcm _ rfl (by kernel_rfl) ⟨⟨rfl, trivial⟩, ⟨rfl, trivial⟩, trivial⟩ ?_
  refine ⟨_, rfl, ((A', cp'), dn, (TT.mk vk vn vnm vla vlc vls vaa vac vus)), ⟨rfl, hx⟩, rfl, ?_⟩
  exact zaa [] rfl rfl rfl rfl (leB rfl) (rs rfl rfl) trivial ⟨⟨zel.up _ _ _, fun w h => h.1⟩, trivial⟩
 have hlt : dn.length < ns.length := by
  have h : decide ((dn.length : Int) < (ns.length : Int)) = true := hlt0
  have := of_decide_eq_true h
  omega
 clear hlt0
 obtain ⟨nm, hnm⟩ : ∃ s, ns[dn.length]? = some s := ⟨_, List.getElem?_eq_getElem hlt⟩
 have hnms := hns nm (List.mem_of_getElem? hnm)
 have hdr : ns.drop dn.length = nm :: ns.drop (dn.length + 1) := by
  rw [List.drop_eq_getElem_cons hlt]
  simp [(List.getElem?_eq_some_iff.1 hnm).2]
 rw [hdr, zeg, zbs] at ho
 obtain ⟨a, b, rfl⟩ : ∃ a b, us = [a, b] := by
  match us, ho with
  | [], ho => simp [zp9, zfb] at ho
  | [x], ho => simp [zp9, zfb] at ho
  | [x, y], _ => exact ⟨x, y, rfl⟩
  | x :: y :: z :: r, ho => simp [zp9, zfb] at ho
 have ho2 : zfb (dn.map locM) (zlx nm (zjo ((dn.map Prod.fst).map cT) a.tm) (zeg (dn.map Prod.fst ++ [nm]) (ns.drop (dn.length + 1)) b.tm)) = some (lr, br) := ho
 clear ho
 rw [zbs] at hz
 have hz2 : za8 (.mk k n s ls [a.tm, b.tm]) <= 3000 := hz
 clear hz
 have hsa : za8 a.tm < za8 (.mk k n s ls [a.tm, b.tm]) := zd9 List.mem_cons_self
 have hsb : za8 b.tm < za8 (.mk k n s ls [a.tm, b.tm]) := zd9 (List.mem_cons_of_mem _ List.mem_cons_self)
 rw [<- zs6] at ho2
 obtain ⟨o, hop⟩ : ∃ o, zjo ((dn.map locT).map TT.tm) a.tm = o := ⟨_, rfl⟩
 have hput0 := fun A' cp' => zus a A' cp' (dn.map locT) (zc2 _ (by omega)) hBs
 rw [hop] at ho2 hput0
 have hll : (dn.map locT).length = dn.length := List.length_map _
 rw [hll] at hput0
 cases o with
 | none =>
  cases hq : zeg (dn.map Prod.fst ++ [nm]) (ns.drop (dn.length + 1)) b.tm with
  | none => rw [hq] at ho2; cases ho2
  | some q2 => rw [hq] at ho2; cases ho2
 | some typ =>
 have hput := hput0
 have hnext : ∀ x : TT, x.tm = typ -> zfb ((dn ++ [(nm, x)]).map locM) (zeg ((dn ++ [(nm, x)]).map Prod.fst) (ns.drop (dn.length + 1)) b.tm) = some (lr, br) := by
  intro x hx
  rw [List.map_append, List.map_append]
  show zfb (dn.map locM ++ [(nm, x.tm)]) (zeg (dn.map Prod.fst ++ [nm]) (ns.drop (dn.length + 1)) b.tm) = _
  rw [hx]
  cases hq : zeg (dn.map Prod.fst ++ [nm]) (ns.drop (dn.length + 1)) b.tm with
  | none => rw [hq] at ho2; cases ho2
  | some q2 =>
   rw [hq] at ho2
   rw [<- ho2]
   simp [zfb, zlx]
 clear ho2 hput0 hop
 refine zai.told (p := ∃ q, aa = some q) (fun w h => ?_) ?_
 ·obtain ⟨⟨q, hq, _⟩, _⟩ := h.1.1.2.arg (j := 0) (t := a) rfl
  exact ⟨q, hq⟩
 rintro ⟨b0, rfl⟩
 obtain ⟨ka, na, sa, laa, lca, lsa, aaa, aca, usa⟩ := a
 obtain ⟨kb, nb, sb, lab, lcb, lsb, aab, acb, usb⟩ := b
 have hacell : ∀ w, oG A c ns (TT.mk k n s la lc ls (some b0) ac [(TT.mk ka na sa laa lca lsa aaa aca usa), (TT.mk kb nb sb lab lcb lsb aab acb usb)]) dn w -> ∃ q, Value.pointer (some (b0.add (0 * 5))) = .pointer (some q) /\ ∀ l u, (TT.mk ka na sa laa lca lsa aaa aca usa).cells[l]? = some u -> w.cell? (q.add l) = some u := by
  intro w h
  obtain ⟨⟨q, hq, hc⟩, _⟩ := h.1.2.arg (j := 0) (t := (TT.mk ka na sa laa lca lsa aaa aca usa)) rfl
  cases hq
  exact ⟨_, rfl, hc⟩
 have hnames : ∀ w, oG A c ns (TT.mk k n s la lc ls (some b0) ac [(TT.mk ka na sa laa lca lsa aaa aca usa), (TT.mk kb nb sb lab lcb lsb aab acb usb)]) dn w -> ∀ l ∈ dn, l.1.size <= maxLen := fun _ _ => hsz
 refine zaf zac [8] _ _ _ ?_
 refine ⟨{ n := dn.length }, ⟨rfl, hlt, fun w h => ?_⟩, ?_⟩
 ·obtain ⟨a, ha, _⟩ := h.1.1.1.2.get hnm
  rw [ha]; rfl
 refine ⟨{ v := .string nm }, fun w h => ?_, ?_⟩
 ·obtain ⟨a, ha, h3⟩ := h.1.1.1.2.get hnm
  exact ⟨a.add (dn.length * 1), by rw [ha]; rfl, by rw [Nat.mul_one]; exact h3⟩
 refine zai.ent (st' := { s := [(2, .one (.v (.slice A ns.length c))), (3, .one (.p 0 0)), (7, .one (.p 1 0)), (11, .one (.row 2)), (45, .one (.v (.slice A ns.length c))), (46, .one (.v (.int .i64 (ns.length : Int)))), (47, .one (.v (.int .i64 (dn.length : Int)))), (13, .one (.v (.string nm)))], m := [(0, .cells 41 ((TT.mk k n s la lc ls (some b0) ac [(TT.mk ka na sa laa lca lsa aaa aca usa), (TT.mk kb nb sb lab lcb lsb aab acb usb)]).cells.map SA.v)), (1, .cells 41 zap), (2, .own 114 6 dn.length (locC dn))], k := 3, f := [oG A c ns (TT.mk k n s la lc ls (some b0) ac [(TT.mk ka na sa laa lca lsa aaa aca usa), (TT.mk kb nb sb lab lcb lsb aab acb usb)]) dn] }) (zaa [(0, .blk 0), (1, .blk 1), (2, .own 2)] rfl rfl rfl rfl (leB rfl) ⟨⟨_, rfl, rfl⟩, ⟨_, rfl, rfl⟩, ⟨_, rfl, rfl⟩, ⟨_, rfl, rfl⟩, ⟨_, rfl, rfl⟩, ⟨_, rfl, rfl⟩, ⟨_, rfl, rfl⟩, ⟨_, rfl, rfl⟩, trivial⟩ ⟨⟨_, rfl, rfl⟩, ⟨_, rfl, rfl⟩, ⟨_, _, rfl, rfl, rfl⟩, trivial⟩ ⟨⟨oG.up _ _ _ _ _, fun w h => h.1⟩, trivial⟩) ?_
 refine zai.cutX (X := TT) (fun x => x.tm = typ) (fun x => { s := [(2, .one (.v (.slice A ns.length c))), (3, .one (.p 0 0)), (7, .one (.p 1 0)), (11, .one (.row 2)), (45, .one (.v (.slice A ns.length c))), (46, .one (.v (.int .i64 (ns.length : Int)))), (47, .one (.v (.int .i64 (dn.length : Int)))), (13, .one (.v (.string nm))), (14, .one (.p 3 0)), (15, .one (.v (.bool true)))], m := [(0, .cells 41 ((TT.mk k n s la lc ls (some b0) ac [(TT.mk ka na sa laa lca lsa aaa aca usa), (TT.mk kb nb sb lab lcb lsb aab acb usb)]).cells.map SA.v)), (1, .cells 41 zap), (2, .own 114 6 dn.length (locC dn)), (3, .cells 41 (x.cells.map SA.v))], k := 4, f := [oH A c ns (TT.mk k n s la lc ls (some b0) ac [(TT.mk ka na sa laa lca lsa aaa aca usa), (TT.mk kb nb sb lab lcb lsb aab acb usb)]) dn x] }) (zai.draw zac ?_) (fun x hx => ?_)
 ·skip
  let aS : List (Nat × SV) := [(2, .one (.v (.slice A ns.length c))), (3, .one (.p 0 0)), (7, .one (.p 1 0)), (11, .one (.row 2)), (45, .one (.v (.slice A ns.length c))), (46, .one (.v (.int .i64 (ns.length : Int)))), (47, .one (.v (.int .i64 (dn.length : Int)))), (13, .one (.v (.string nm)))]
  let aM : List (Nat × LB) := [(0, .cells 41 ((TT.mk k n s la lc ls (some b0) ac [(TT.mk ka na sa laa lca lsa aaa aca usa), (TT.mk kb nb sb lab lcb lsb aab acb usb)]).cells.map SA.v)), (1, .cells 41 zap), (2, .own 114 6 dn.length (locC dn))]
  let aF : List (World -> Prop) := [oG A c ns (TT.mk k n s la lc ls (some b0) ac [(TT.mk ka na sa laa lca lsa aaa aca usa), (TT.mk kb nb sb lab lcb lsb aab acb usb)]) dn]
  refine ⟨[0, 1, 3, 7, 0, 16, 63, 127, 255, 255, 0, 1535, 4095], [5, 6, 7, 8, 9, 10, 11, 12], [(0, { dst := some 52, v := .one (.p 0 4), p := none, f := none }), (1, { dst := some 53, v := .one (.v (.slice (some b0) 2 ac)), p := none, f := none }), (2, { dst := some 54, v := .one (.v (.pointer (some (b0.add (0 * 5))))), p := none, f := none }), (3, { dst := some 55, v := .agg ((TT.mk ka na sa laa lca lsa aaa aca usa).cells.map SA.v), p := none, f := none }), (4, { dst := some 56, v := .one (.row 2), p := none, f := none })], by kernel_rfl, rfl, by kernel_rfl, by kernel_rfl, rfl, rfl, rfl, rfl, ?_⟩
  refine zag ({ s := aS, m := aM, k := 3, f := aF }) [5, 10] rfl (by kernel_rfl) (by kernel_rfl) ⟨⟨rfl, rfl⟩, ⟨rfl, rfl⟩, ⟨rfl, ⟨{ n := 0 }, ⟨rfl, Nat.succ_pos _, fun w h => rfl⟩, rfl⟩⟩, ⟨rfl, ⟨{ cs := (TT.mk ka na sa laa lca lsa aaa aca usa).cells }, ⟨TT.cells_one (TT.mk ka na sa laa lca lsa aaa aca usa), rfl, fun w h => hacell w h.1⟩, rfl⟩⟩, ⟨rfl, rfl⟩, trivial⟩ ⟨?_, ?_, trivial⟩
  ·refine ⟨_, rfl, rfl, OpX.of zac _ rfl ?_⟩
   refine zeu 2 rfl (fun A' cp' => [.one (.v (.slice A' dn.length cp'))]) (fun A' => lcP A' dn) (fun A' cp' _ _ _ => zd1 A' cp' dn hdl) (fun A' cp' x hx => by rw [List.mem_singleton.1 hx]; trivial) (fun e e' A' cp' he => by show [Value.slice A' dn.length cp'] = [e.rv 2]; rw [he]) (fun A' w _ h => h) (fun _ => rfl) (fun _ => rfl) (fun _ _ => ⟨rfl, rfl⟩) (fun _ _ => ?_)
   let x5 : Nat × SV := (57, .one (.row 3))
   let m5 : Nat × LB := (3, .own 41 5 dn.length (ttsC (dn.map locT)))
   let f5a : World -> Prop := fun _ => True
   refine zag ({ s := x5 :: aS, m := m5 :: aM, k := 4, f := f5a :: aF }) [6, 10] rfl (by kernel_rfl) (by kernel_rfl) ⟨⟨rfl, rfl⟩, ⟨rfl, rfl⟩, ⟨rfl, ⟨{ n := 0 }, ⟨rfl, Nat.succ_pos _, fun w h => rfl⟩, rfl⟩⟩, ⟨rfl, ⟨{ cs := (TT.mk ka na sa laa lca lsa aaa aca usa).cells }, ⟨TT.cells_one (TT.mk ka na sa laa lca lsa aaa aca usa), rfl, fun w h => hacell w h.2.1⟩, rfl⟩⟩, ⟨rfl, trivial⟩, trivial⟩ ⟨?_, ?_, trivial⟩
   ·refine ⟨_, rfl, rfl, OpX.of zac _ rfl ?_⟩
    refine zdl 3 rfl (fun A' cp' f1 f2 f3 => ?_)
    refine zab [] (hput A' cp') rfl trivial rfl rfl (fun w h => ⟨⟨h.2.2.1.1.1.1, zhk dn f1 f2 f3 h.1 (hnames w h.2.2.1)⟩, (h.2.2.1.1.2.arg (j := 0) (t := (TT.mk ka na sa laa lca lsa aaa aca usa)) rfl).2⟩) (fun x _ => ?_) (fun x hx => ?_)
    ·obtain ⟨vk, vn, vnm, vla, vlc, vls, vaa, vac, vus⟩ := x
     exact ⟨rfl, rfl⟩
    have hx : x.tm = typ := hx
    obtain ⟨vk, vn, vnm, vla, vlc, vls, vaa, vac, vus⟩ := x
    let x6 : Nat × SV := (58, .tup [.agg ((TT.mk vk vn vnm vla vlc vls vaa vac vus).cells.map SA.v), .one (.v (.bool true))])
    let m6 : Nat × LB := (3, .dead)
    let f6a : World -> Prop := fun w => TTIn w (TT.mk vk vn vnm vla vlc vls vaa vac vus)
    let f6b : World -> Prop := fun w => SlAt w A' (ttsC (dn.map locT))
    refine zag ({ s := x6 :: x5 :: aS, m := m6 :: m5 :: aM, k := 4, f := f6a :: f6b :: f5a :: aF }) [7, 10] rfl (by kernel_rfl) (by kernel_rfl) ⟨⟨rfl, trivial⟩, ⟨rfl, trivial⟩, ⟨rfl, trivial⟩, ⟨rfl, trivial⟩, ⟨rfl, trivial⟩, trivial⟩ ⟨?_, ?_, trivial⟩
    ·refine ⟨_, rfl, rfl, OpX.of zac _ rfl ?_⟩
     let x7 : Nat × SV := (51, .tup [.agg ((TT.mk vk vn vnm vla vlc vls vaa vac vus).cells.map SA.v), .one (.v (.bool true))])
     refine zag ({ s := x7 :: x6 :: x5 :: aS, m := m6 :: m5 :: aM, k := 4, f := f6a :: f6b :: f5a :: aF }) [8, 9, 10] rfl (by kernel_rfl) (by kernel_rfl) ⟨⟨rfl, trivial⟩, ⟨rfl, trivial⟩, ⟨rfl, trivial⟩, ⟨rfl, trivial⟩, ⟨rfl, trivial⟩, trivial⟩ ⟨?_, ?_, ?_, trivial⟩
     ·refine ⟨_, rfl, rfl, OpX.of zac _ rfl ?_⟩
      let x8 : Nat × SV := (59, .agg ((TT.mk vk vn vnm vla vlc vls vaa vac vus).cells.map SA.v))
      refine zag ({ s := x8 :: x7 :: x6 :: x5 :: aS, m := m6 :: m5 :: aM, k := 4, f := f6a :: f6b :: f5a :: aF }) [9, 10] rfl (by kernel_rfl) (by kernel_rfl) ⟨⟨rfl, trivial⟩, ⟨rfl, trivial⟩, ⟨rfl, trivial⟩, ⟨rfl, trivial⟩, ⟨rfl, trivial⟩, trivial⟩ ⟨?_, ?_, trivial⟩
      ·refine ⟨_, rfl, rfl, OpX.of zac _ rfl ?_⟩
       let x9 : Nat × SV := (60, .one (.v (.bool true)))
       refine zag ({ s := x9 :: x8 :: x7 :: x6 :: x5 :: aS, m := m6 :: m5 :: aM, k := 4, f := f6a :: f6b :: f5a :: aF }) [10] rfl (by kernel_rfl) (by kernel_rfl) ⟨⟨rfl, trivial⟩, ⟨rfl, trivial⟩, ⟨rfl, trivial⟩, ⟨rfl, trivial⟩, ⟨rfl, trivial⟩, trivial⟩ ⟨?_, trivial⟩
       refine ⟨_, rfl, rfl, OpX.of zac _ rfl ?_⟩
       let x10 : Nat × SV := (14, .one (.p 4 0))
       let m10 : Nat × LB := (4, .cells 41 zap)
       refine zag ({ s := x10 :: x9 :: x8 :: x7 :: x6 :: x5 :: aS, m := m10 :: m6 :: m5 :: aM, k := 5, f := f6a :: f6b :: f5a :: aF }) [11] rfl (by kernel_rfl) (by kernel_rfl) ⟨⟨rfl, trivial⟩, ⟨rfl, trivial⟩, ⟨rfl, trivial⟩, ⟨rfl, trivial⟩, ⟨rfl, trivial⟩, trivial⟩ ⟨?_, trivial⟩
       refine ⟨_, rfl, rfl, OpX.of zac _ rfl ?_⟩
       let m11 : Nat × LB := (4, .cells 41 ((TT.mk vk vn vnm vla vlc vls vaa vac vus).cells.map SA.v))
       refine zag ({ s := x10 :: x9 :: x8 :: x7 :: x6 :: x5 :: aS, m := m11 :: m10 :: m6 :: m5 :: aM, k := 5, f := f6a :: f6b :: f5a :: aF }) [12] rfl (by kernel_rfl) (by kernel_rfl) ⟨⟨rfl, trivial⟩, ⟨rfl, trivial⟩, ⟨rfl, trivial⟩, ⟨rfl, trivial⟩, ⟨rfl, trivial⟩, trivial⟩ ⟨?_, trivial⟩
       refine ⟨_, rfl, rfl, OpX.of zac _ rfl ?_⟩
       let x12 : Nat × SV := (15, .one (.v (.bool true)))
       refine zat _ rfl (by kernel_rfl) ⟨⟨rfl, trivial⟩, ⟨rfl, trivial⟩, ⟨rfl, trivial⟩, ⟨rfl, trivial⟩, ⟨rfl, trivial⟩, trivial⟩ ?_
       exact ⟨(TT.mk vk vn vnm vla vlc vls vaa vac vus), hx, zaa [(0, .blk 0), (1, .blk 1), (2, .own 2), (3, .blk 4)] rfl rfl rfl rfl (leB rfl) ⟨⟨_, rfl, rfl⟩, ⟨_, rfl, rfl⟩, ⟨_, rfl, rfl⟩, ⟨_, rfl, rfl⟩, ⟨_, rfl, rfl⟩, ⟨_, rfl, rfl⟩, ⟨_, rfl, rfl⟩, ⟨_, rfl, rfl⟩, ⟨_, rfl, rfl⟩, ⟨_, rfl, rfl⟩, trivial⟩ ⟨⟨_, rfl, rfl⟩, ⟨_, rfl, rfl⟩, ⟨_, _, rfl, rfl, rfl⟩, ⟨_, rfl, rfl⟩, trivial⟩ ⟨⟨oH.up _ _ _ _ _ _, fun w h => ⟨h.2.2.2.1, h.1⟩⟩, trivial⟩⟩
      ·refine ⟨_, rfl, rfl, OpX.of zac _ rfl ?_⟩
       let x10 : Nat × SV := (14, .one (.p 4 0))
       let m10 : Nat × LB := (4, .cells 41 zap)
       refine zag ({ s := x10 :: x8 :: x7 :: x6 :: x5 :: aS, m := m10 :: m6 :: m5 :: aM, k := 5, f := f6a :: f6b :: f5a :: aF }) [9, 11] rfl (by kernel_rfl) (by kernel_rfl) ⟨⟨rfl, trivial⟩, ⟨rfl, trivial⟩, ⟨rfl, trivial⟩, ⟨rfl, trivial⟩, ⟨rfl, trivial⟩, trivial⟩ ⟨?_, ?_, trivial⟩
       ·refine ⟨_, rfl, rfl, OpX.of zac _ rfl ?_⟩
        let x9 : Nat × SV := (60, .one (.v (.bool true)))
        refine zag ({ s := x9 :: x10 :: x8 :: x7 :: x6 :: x5 :: aS, m := m10 :: m6 :: m5 :: aM, k := 5, f := f6a :: f6b :: f5a :: aF }) [11] rfl (by kernel_rfl) (by kernel_rfl) ⟨⟨rfl, trivial⟩, ⟨rfl, trivial⟩, ⟨rfl, trivial⟩, ⟨rfl, trivial⟩, ⟨rfl, trivial⟩, trivial⟩ ⟨?_, trivial⟩
        refine ⟨_, rfl, rfl, OpX.of zac _ rfl ?_⟩
        let m11 : Nat × LB := (4, .cells 41 ((TT.mk vk vn vnm vla vlc vls vaa vac vus).cells.map SA.v))
        refine zag ({ s := x9 :: x10 :: x8 :: x7 :: x6 :: x5 :: aS, m := m11 :: m10 :: m6 :: m5 :: aM, k := 5, f := f6a :: f6b :: f5a :: aF }) [12] rfl (by kernel_rfl) (by kernel_rfl) ⟨⟨rfl, trivial⟩, ⟨rfl, trivial⟩, ⟨rfl, trivial⟩, ⟨rfl, trivial⟩, ⟨rfl, trivial⟩, trivial⟩ ⟨?_, trivial⟩
        refine ⟨_, rfl, rfl, OpX.of zac _ rfl ?_⟩
        let x12 : Nat × SV := (15, .one (.v (.bool true)))
        refine zat _ rfl (by kernel_rfl) ⟨⟨rfl, trivial⟩, ⟨rfl, trivial⟩, ⟨rfl, trivial⟩, ⟨rfl, trivial⟩, ⟨rfl, trivial⟩, trivial⟩ ?_
        exact ⟨(TT.mk vk vn vnm vla vlc vls vaa vac vus), hx, zaa [(0, .blk 0), (1, .blk 1), (2, .own 2), (3, .blk 4)] rfl rfl rfl rfl (leB rfl) ⟨⟨_, rfl, rfl⟩, ⟨_, rfl, rfl⟩, ⟨_, rfl, rfl⟩, ⟨_, rfl, rfl⟩, ⟨_, rfl, rfl⟩, ⟨_, rfl, rfl⟩, ⟨_, rfl, rfl⟩, ⟨_, rfl, rfl⟩, ⟨_, rfl, rfl⟩, ⟨_, rfl, rfl⟩, trivial⟩ ⟨⟨_, rfl, rfl⟩, ⟨_, rfl, rfl⟩, ⟨_, _, rfl, rfl, rfl⟩, ⟨_, rfl, rfl⟩, trivial⟩ ⟨⟨oH.up _ _ _ _ _ _, fun w h => ⟨h.2.2.2.1, h.1⟩⟩, trivial⟩⟩
       ·refine ⟨_, rfl, rfl, OpX.of zac _ rfl ?_⟩
        let m11 : Nat × LB := (4, .cells 41 ((TT.mk vk vn vnm vla vlc vls vaa vac vus).cells.map SA.v))
        refine zag ({ s := x10 :: x8 :: x7 :: x6 :: x5 :: aS, m := m11 :: m10 :: m6 :: m5 :: aM, k := 5, f := f6a :: f6b :: f5a :: aF }) [9] rfl (by kernel_rfl) (by kernel_rfl) ⟨⟨rfl, trivial⟩, ⟨rfl, trivial⟩, ⟨rfl, trivial⟩, ⟨rfl, trivial⟩, ⟨rfl, trivial⟩, trivial⟩ ⟨?_, trivial⟩
        refine ⟨_, rfl, rfl, OpX.of zac _ rfl ?_⟩
        let x9 : Nat × SV := (60, .one (.v (.bool true)))
        refine zag ({ s := x9 :: x10 :: x8 :: x7 :: x6 :: x5 :: aS, m := m11 :: m10 :: m6 :: m5 :: aM, k := 5, f := f6a :: f6b :: f5a :: aF }) [12] rfl (by kernel_rfl) (by kernel_rfl) ⟨⟨rfl, trivial⟩, ⟨rfl, trivial⟩, ⟨rfl, trivial⟩, ⟨rfl, trivial⟩, ⟨rfl, trivial⟩, trivial⟩ ⟨?_, trivial⟩
        refine ⟨_, rfl, rfl, OpX.of zac _ rfl ?_⟩
        let x12 : Nat × SV := (15, .one (.v (.bool true)))
        refine zat _ rfl (by kernel_rfl) ⟨⟨rfl, trivial⟩, ⟨rfl, trivial⟩, ⟨rfl, trivial⟩, ⟨rfl, trivial⟩, ⟨rfl, trivial⟩, trivial⟩ ?_
        exact ⟨(TT.mk vk vn vnm vla vlc vls vaa vac vus), hx, zaa [(0, .blk 0), (1, .blk 1), (2, .own 2), (3, .blk 4)] rfl rfl rfl rfl (leB rfl) ⟨⟨_, rfl, rfl⟩, ⟨_, rfl, rfl⟩, ⟨_, rfl, rfl⟩, ⟨_, rfl, rfl⟩, ⟨_, rfl, rfl⟩, ⟨_, rfl, rfl⟩, ⟨_, rfl, rfl⟩, ⟨_, rfl, rfl⟩, ⟨_, rfl, rfl⟩, ⟨_, rfl, rfl⟩, trivial⟩ ⟨⟨_, rfl, rfl⟩, ⟨_, rfl, rfl⟩, ⟨_, _, rfl, rfl, rfl⟩, ⟨_, rfl, rfl⟩, trivial⟩ ⟨⟨oH.up _ _ _ _ _ _, fun w h => ⟨h.2.2.2.1, h.1⟩⟩, trivial⟩⟩
     ·refine ⟨_, rfl, rfl, OpX.of zac _ rfl ?_⟩
      let x9 : Nat × SV := (60, .one (.v (.bool true)))
      refine zag ({ s := x9 :: x7 :: x6 :: x5 :: aS, m := m6 :: m5 :: aM, k := 4, f := f6a :: f6b :: f5a :: aF }) [8, 10] rfl (by kernel_rfl) (by kernel_rfl) ⟨⟨rfl, trivial⟩, ⟨rfl, trivial⟩, ⟨rfl, trivial⟩, ⟨rfl, trivial⟩, ⟨rfl, trivial⟩, trivial⟩ ⟨?_, ?_, trivial⟩
      ·refine ⟨_, rfl, rfl, OpX.of zac _ rfl ?_⟩
       let x8 : Nat × SV := (59, .agg ((TT.mk vk vn vnm vla vlc vls vaa vac vus).cells.map SA.v))
       refine zag ({ s := x8 :: x9 :: x7 :: x6 :: x5 :: aS, m := m6 :: m5 :: aM, k := 4, f := f6a :: f6b :: f5a :: aF }) [10] rfl (by kernel_rfl) (by kernel_rfl) ⟨⟨rfl, trivial⟩, ⟨rfl, trivial⟩, ⟨rfl, trivial⟩, ⟨rfl, trivial⟩, ⟨rfl, trivial⟩, trivial⟩ ⟨?_, trivial⟩
       refine ⟨_, rfl, rfl, OpX.of zac _ rfl ?_⟩
       let x10 : Nat × SV := (14, .one (.p 4 0))
       let m10 : Nat × LB := (4, .cells 41 zap)
       refine zag ({ s := x10 :: x8 :: x9 :: x7 :: x6 :: x5 :: aS, m := m10 :: m6 :: m5 :: aM, k := 5, f := f6a :: f6b :: f5a :: aF }) [11] rfl (by kernel_rfl) (by kernel_rfl) ⟨⟨rfl, trivial⟩, ⟨rfl, trivial⟩, ⟨rfl, trivial⟩, ⟨rfl, trivial⟩, ⟨rfl, trivial⟩, trivial⟩ ⟨?_, trivial⟩
       refine ⟨_, rfl, rfl, OpX.of zac _ rfl ?_⟩
       let m11 : Nat × LB := (4, .cells 41 ((TT.mk vk vn vnm vla vlc vls vaa vac vus).cells.map SA.v))
       refine zag ({ s := x10 :: x8 :: x9 :: x7 :: x6 :: x5 :: aS, m := m11 :: m10 :: m6 :: m5 :: aM, k := 5, f := f6a :: f6b :: f5a :: aF }) [12] rfl (by kernel_rfl) (by kernel_rfl) ⟨⟨rfl, trivial⟩, ⟨rfl, trivial⟩, ⟨rfl, trivial⟩, ⟨rfl, trivial⟩, ⟨rfl, trivial⟩, trivial⟩ ⟨?_, trivial⟩
       refine ⟨_, rfl, rfl, OpX.of zac _ rfl ?_⟩
       let x12 : Nat × SV := (15, .one (.v (.bool true)))
       refine zat _ rfl (by kernel_rfl) ⟨⟨rfl, trivial⟩, ⟨rfl, trivial⟩, ⟨rfl, trivial⟩, ⟨rfl, trivial⟩, ⟨rfl, trivial⟩, trivial⟩ ?_
       exact ⟨(TT.mk vk vn vnm vla vlc vls vaa vac vus), hx, zaa [(0, .blk 0), (1, .blk 1), (2, .own 2), (3, .blk 4)] rfl rfl rfl rfl (leB rfl) ⟨⟨_, rfl, rfl⟩, ⟨_, rfl, rfl⟩, ⟨_, rfl, rfl⟩, ⟨_, rfl, rfl⟩, ⟨_, rfl, rfl⟩, ⟨_, rfl, rfl⟩, ⟨_, rfl, rfl⟩, ⟨_, rfl, rfl⟩, ⟨_, rfl, rfl⟩, ⟨_, rfl, rfl⟩, trivial⟩ ⟨⟨_, rfl, rfl⟩, ⟨_, rfl, rfl⟩, ⟨_, _, rfl, rfl, rfl⟩, ⟨_, rfl, rfl⟩, trivial⟩ ⟨⟨oH.up _ _ _ _ _ _, fun w h => ⟨h.2.2.2.1, h.1⟩⟩, trivial⟩⟩
      ·refine ⟨_, rfl, rfl, OpX.of zac _ rfl ?_⟩
       let x10 : Nat × SV := (14, .one (.p 4 0))
       let m10 : Nat × LB := (4, .cells 41 zap)
       refine zag ({ s := x10 :: x9 :: x7 :: x6 :: x5 :: aS, m := m10 :: m6 :: m5 :: aM, k := 5, f := f6a :: f6b :: f5a :: aF }) [8] rfl (by kernel_rfl) (by kernel_rfl) ⟨⟨rfl, trivial⟩, ⟨rfl, trivial⟩, ⟨rfl, trivial⟩, ⟨rfl, trivial⟩, ⟨rfl, trivial⟩, trivial⟩ ⟨?_, trivial⟩
       refine ⟨_, rfl, rfl, OpX.of zac _ rfl ?_⟩
       let x8 : Nat × SV := (59, .agg ((TT.mk vk vn vnm vla vlc vls vaa vac vus).cells.map SA.v))
       refine zag ({ s := x8 :: x10 :: x9 :: x7 :: x6 :: x5 :: aS, m := m10 :: m6 :: m5 :: aM, k := 5, f := f6a :: f6b :: f5a :: aF }) [11] rfl (by kernel_rfl) (by kernel_rfl) ⟨⟨rfl, trivial⟩, ⟨rfl, trivial⟩, ⟨rfl, trivial⟩, ⟨rfl, trivial⟩, ⟨rfl, trivial⟩, trivial⟩ ⟨?_, trivial⟩
       refine ⟨_, rfl, rfl, OpX.of zac _ rfl ?_⟩
       let m11 : Nat × LB := (4, .cells 41 ((TT.mk vk vn vnm vla vlc vls vaa vac vus).cells.map SA.v))
       refine zag ({ s := x8 :: x10 :: x9 :: x7 :: x6 :: x5 :: aS, m := m11 :: m10 :: m6 :: m5 :: aM, k := 5, f := f6a :: f6b :: f5a :: aF }) [12] rfl (by kernel_rfl) (by kernel_rfl) ⟨⟨rfl, trivial⟩, ⟨rfl, trivial⟩, ⟨rfl, trivial⟩, ⟨rfl, trivial⟩, ⟨rfl, trivial⟩, trivial⟩ ⟨?_, trivial⟩
       refine ⟨_, rfl, rfl, OpX.of zac _ rfl ?_⟩
       let x12 : Nat × SV := (15, .one (.v (.bool true)))
       refine zat _ rfl (by kernel_rfl) ⟨⟨rfl, trivial⟩, ⟨rfl, trivial⟩, ⟨rfl, trivial⟩, ⟨rfl, trivial⟩, ⟨rfl, trivial⟩, trivial⟩ ?_
       exact ⟨(TT.mk vk vn vnm vla vlc vls vaa vac vus), hx, zaa [(0, .blk 0), (1, .blk 1), (2, .own 2), (3, .blk 4)] rfl rfl rfl rfl (leB rfl) ⟨⟨_, rfl, rfl⟩, ⟨_, rfl, rfl⟩, ⟨_, rfl, rfl⟩, ⟨_, rfl, rfl⟩, ⟨_, rfl, rfl⟩, ⟨_, rfl, rfl⟩, ⟨_, rfl, rfl⟩, ⟨_, rfl, rfl⟩, ⟨_, rfl, rfl⟩, ⟨_, rfl, rfl⟩, trivial⟩ ⟨⟨_, rfl, rfl⟩, ⟨_, rfl, rfl⟩, ⟨_, _, rfl, rfl, rfl⟩, ⟨_, rfl, rfl⟩, trivial⟩ ⟨⟨oH.up _ _ _ _ _ _, fun w h => ⟨h.2.2.2.1, h.1⟩⟩, trivial⟩⟩
     ·refine ⟨_, rfl, rfl, OpX.of zac _ rfl ?_⟩
      let x10 : Nat × SV := (14, .one (.p 4 0))
      let m10 : Nat × LB := (4, .cells 41 zap)
      refine zag ({ s := x10 :: x7 :: x6 :: x5 :: aS, m := m10 :: m6 :: m5 :: aM, k := 5, f := f6a :: f6b :: f5a :: aF }) [8, 9] rfl (by kernel_rfl) (by kernel_rfl) ⟨⟨rfl, trivial⟩, ⟨rfl, trivial⟩, ⟨rfl, trivial⟩, ⟨rfl, trivial⟩, ⟨rfl, trivial⟩, trivial⟩ ⟨?_, ?_, trivial⟩
      ·refine ⟨_, rfl, rfl, OpX.of zac _ rfl ?_⟩
       let x8 : Nat × SV := (59, .agg ((TT.mk vk vn vnm vla vlc vls vaa vac vus).cells.map SA.v))
       refine zag ({ s := x8 :: x10 :: x7 :: x6 :: x5 :: aS, m := m10 :: m6 :: m5 :: aM, k := 5, f := f6a :: f6b :: f5a :: aF }) [9, 11] rfl (by kernel_rfl) (by kernel_rfl) ⟨⟨rfl, trivial⟩, ⟨rfl, trivial⟩, ⟨rfl, trivial⟩, ⟨rfl, trivial⟩, ⟨rfl, trivial⟩, trivial⟩ ⟨?_, ?_, trivial⟩
       ·refine ⟨_, rfl, rfl, OpX.of zac _ rfl ?_⟩
        let x9 : Nat × SV := (60, .one (.v (.bool true)))
        refine zag ({ s := x9 :: x8 :: x10 :: x7 :: x6 :: x5 :: aS, m := m10 :: m6 :: m5 :: aM, k := 5, f := f6a :: f6b :: f5a :: aF }) [11] rfl (by kernel_rfl) (by kernel_rfl) ⟨⟨rfl, trivial⟩, ⟨rfl, trivial⟩, ⟨rfl, trivial⟩, ⟨rfl, trivial⟩, ⟨rfl, trivial⟩, trivial⟩ ⟨?_, trivial⟩
        refine ⟨_, rfl, rfl, OpX.of zac _ rfl ?_⟩
        let m11 : Nat × LB := (4, .cells 41 ((TT.mk vk vn vnm vla vlc vls vaa vac vus).cells.map SA.v))
        refine zag ({ s := x9 :: x8 :: x10 :: x7 :: x6 :: x5 :: aS, m := m11 :: m10 :: m6 :: m5 :: aM, k := 5, f := f6a :: f6b :: f5a :: aF }) [12] rfl (by kernel_rfl) (by kernel_rfl) ⟨⟨rfl, trivial⟩, ⟨rfl, trivial⟩, ⟨rfl, trivial⟩, ⟨rfl, trivial⟩, ⟨rfl, trivial⟩, trivial⟩ ⟨?_, trivial⟩
        refine ⟨_, rfl, rfl, OpX.of zac _ rfl ?_⟩
        let x12 : Nat × SV := (15, .one (.v (.bool true)))
        refine zat _ rfl (by kernel_rfl) ⟨⟨rfl, trivial⟩, ⟨rfl, trivial⟩, ⟨rfl, trivial⟩, ⟨rfl, trivial⟩, ⟨rfl, trivial⟩, trivial⟩ ?_
        exact ⟨(TT.mk vk vn vnm vla vlc vls vaa vac vus), hx, zaa [(0, .blk 0), (1, .blk 1), (2, .own 2), (3, .blk 4)] rfl rfl rfl rfl (leB rfl) ⟨⟨_, rfl, rfl⟩, ⟨_, rfl, rfl⟩, ⟨_, rfl, rfl⟩, ⟨_, rfl, rfl⟩, ⟨_, rfl, rfl⟩, ⟨_, rfl, rfl⟩, ⟨_, rfl, rfl⟩, ⟨_, rfl, rfl⟩, ⟨_, rfl, rfl⟩, ⟨_, rfl, rfl⟩, trivial⟩ ⟨⟨_, rfl, rfl⟩, ⟨_, rfl, rfl⟩, ⟨_, _, rfl, rfl, rfl⟩, ⟨_, rfl, rfl⟩, trivial⟩ ⟨⟨oH.up _ _ _ _ _ _, fun w h => ⟨h.2.2.2.1, h.1⟩⟩, trivial⟩⟩
       ·refine ⟨_, rfl, rfl, OpX.of zac _ rfl ?_⟩
        let m11 : Nat × LB := (4, .cells 41 ((TT.mk vk vn vnm vla vlc vls vaa vac vus).cells.map SA.v))
        refine zag ({ s := x8 :: x10 :: x7 :: x6 :: x5 :: aS, m := m11 :: m10 :: m6 :: m5 :: aM, k := 5, f := f6a :: f6b :: f5a :: aF }) [9] rfl (by kernel_rfl) (by kernel_rfl) ⟨⟨rfl, trivial⟩, ⟨rfl, trivial⟩, ⟨rfl, trivial⟩, ⟨rfl, trivial⟩, ⟨rfl, trivial⟩, trivial⟩ ⟨?_, trivial⟩
        refine ⟨_, rfl, rfl, OpX.of zac _ rfl ?_⟩
        let x9 : Nat × SV := (60, .one (.v (.bool true)))
        refine zag ({ s := x9 :: x8 :: x10 :: x7 :: x6 :: x5 :: aS, m := m11 :: m10 :: m6 :: m5 :: aM, k := 5, f := f6a :: f6b :: f5a :: aF }) [12] rfl (by kernel_rfl) (by kernel_rfl) ⟨⟨rfl, trivial⟩, ⟨rfl, trivial⟩, ⟨rfl, trivial⟩, ⟨rfl, trivial⟩, ⟨rfl, trivial⟩, trivial⟩ ⟨?_, trivial⟩
        refine ⟨_, rfl, rfl, OpX.of zac _ rfl ?_⟩
        let x12 : Nat × SV := (15, .one (.v (.bool true)))
        refine zat _ rfl (by kernel_rfl) ⟨⟨rfl, trivial⟩, ⟨rfl, trivial⟩, ⟨rfl, trivial⟩, ⟨rfl, trivial⟩, ⟨rfl, trivial⟩, trivial⟩ ?_
        exact ⟨(TT.mk vk vn vnm vla vlc vls vaa vac vus), hx, zaa [(0, .blk 0), (1, .blk 1), (2, .own 2), (3, .blk 4)] rfl rfl rfl rfl (leB rfl) ⟨⟨_, rfl, rfl⟩, ⟨_, rfl, rfl⟩, ⟨_, rfl, rfl⟩, ⟨_, rfl, rfl⟩, ⟨_, rfl, rfl⟩, ⟨_, rfl, rfl⟩, ⟨_, rfl, rfl⟩, ⟨_, rfl, rfl⟩, ⟨_, rfl, rfl⟩, ⟨_, rfl, rfl⟩, trivial⟩ ⟨⟨_, rfl, rfl⟩, ⟨_, rfl, rfl⟩, ⟨_, _, rfl, rfl, rfl⟩, ⟨_, rfl, rfl⟩, trivial⟩ ⟨⟨oH.up _ _ _ _ _ _, fun w h => ⟨h.2.2.2.1, h.1⟩⟩, trivial⟩⟩
      ·refine ⟨_, rfl, rfl, OpX.of zac _ rfl ?_⟩
       let x9 : Nat × SV := (60, .one (.v (.bool true)))
       refine zag ({ s := x9 :: x10 :: x7 :: x6 :: x5 :: aS, m := m10 :: m6 :: m5 :: aM, k := 5, f := f6a :: f6b :: f5a :: aF }) [8] rfl (by kernel_rfl) (by kernel_rfl) ⟨⟨rfl, trivial⟩, ⟨rfl, trivial⟩, ⟨rfl, trivial⟩, ⟨rfl, trivial⟩, ⟨rfl, trivial⟩, trivial⟩ ⟨?_, trivial⟩
       refine ⟨_, rfl, rfl, OpX.of zac _ rfl ?_⟩
       let x8 : Nat × SV := (59, .agg ((TT.mk vk vn vnm vla vlc vls vaa vac vus).cells.map SA.v))
       refine zag ({ s := x8 :: x9 :: x10 :: x7 :: x6 :: x5 :: aS, m := m10 :: m6 :: m5 :: aM, k := 5, f := f6a :: f6b :: f5a :: aF }) [11] rfl (by kernel_rfl) (by kernel_rfl) ⟨⟨rfl, trivial⟩, ⟨rfl, trivial⟩, ⟨rfl, trivial⟩, ⟨rfl, trivial⟩, ⟨rfl, trivial⟩, trivial⟩ ⟨?_, trivial⟩
       refine ⟨_, rfl, rfl, OpX.of zac _ rfl ?_⟩
       let m11 : Nat × LB := (4, .cells 41 ((TT.mk vk vn vnm vla vlc vls vaa vac vus).cells.map SA.v))
       refine zag ({ s := x8 :: x9 :: x10 :: x7 :: x6 :: x5 :: aS, m := m11 :: m10 :: m6 :: m5 :: aM, k := 5, f := f6a :: f6b :: f5a :: aF }) [12] rfl (by kernel_rfl) (by kernel_rfl) ⟨⟨rfl, trivial⟩, ⟨rfl, trivial⟩, ⟨rfl, trivial⟩, ⟨rfl, trivial⟩, ⟨rfl, trivial⟩, trivial⟩ ⟨?_, trivial⟩
       refine ⟨_, rfl, rfl, OpX.of zac _ rfl ?_⟩
       let x12 : Nat × SV := (15, .one (.v (.bool true)))
       refine zat _ rfl (by kernel_rfl) ⟨⟨rfl, trivial⟩, ⟨rfl, trivial⟩, ⟨rfl, trivial⟩, ⟨rfl, trivial⟩, ⟨rfl, trivial⟩, trivial⟩ ?_
       exact ⟨(TT.mk vk vn vnm vla vlc vls vaa vac vus), hx, zaa [(0, .blk 0), (1, .blk 1), (2, .own 2), (3, .blk 4)] rfl rfl rfl rfl (leB rfl) ⟨⟨_, rfl, rfl⟩, ⟨_, rfl, rfl⟩, ⟨_, rfl, rfl⟩, ⟨_, rfl, rfl⟩, ⟨_, rfl, rfl⟩, ⟨_, rfl, rfl⟩, ⟨_, rfl, rfl⟩, ⟨_, rfl, rfl⟩, ⟨_, rfl, rfl⟩, ⟨_, rfl, rfl⟩, trivial⟩ ⟨⟨_, rfl, rfl⟩, ⟨_, rfl, rfl⟩, ⟨_, _, rfl, rfl, rfl⟩, ⟨_, rfl, rfl⟩, trivial⟩ ⟨⟨oH.up _ _ _ _ _ _, fun w h => ⟨h.2.2.2.1, h.1⟩⟩, trivial⟩⟩
    ·refine ⟨_, rfl, rfl, OpX.of zac _ rfl ?_⟩
     let x10 : Nat × SV := (14, .one (.p 4 0))
     let m10 : Nat × LB := (4, .cells 41 zap)
     refine zag ({ s := x10 :: x6 :: x5 :: aS, m := m10 :: m6 :: m5 :: aM, k := 5, f := f6a :: f6b :: f5a :: aF }) [7] rfl (by kernel_rfl) (by kernel_rfl) ⟨⟨rfl, trivial⟩, ⟨rfl, trivial⟩, ⟨rfl, trivial⟩, ⟨rfl, trivial⟩, ⟨rfl, trivial⟩, trivial⟩ ⟨?_, trivial⟩
     refine ⟨_, rfl, rfl, OpX.of zac _ rfl ?_⟩
     let x7 : Nat × SV := (51, .tup [.agg ((TT.mk vk vn vnm vla vlc vls vaa vac vus).cells.map SA.v), .one (.v (.bool true))])
     refine zag ({ s := x7 :: x10 :: x6 :: x5 :: aS, m := m10 :: m6 :: m5 :: aM, k := 5, f := f6a :: f6b :: f5a :: aF }) [8, 9] rfl (by kernel_rfl) (by kernel_rfl) ⟨⟨rfl, trivial⟩, ⟨rfl, trivial⟩, ⟨rfl, trivial⟩, ⟨rfl, trivial⟩, ⟨rfl, trivial⟩, trivial⟩ ⟨?_, ?_, trivial⟩
     ·refine ⟨_, rfl, rfl, OpX.of zac _ rfl ?_⟩
      let x8 : Nat × SV := (59, .agg ((TT.mk vk vn vnm vla vlc vls vaa vac vus).cells.map SA.v))
      refine zag ({ s := x8 :: x7 :: x10 :: x6 :: x5 :: aS, m := m10 :: m6 :: m5 :: aM, k := 5, f := f6a :: f6b :: f5a :: aF }) [9, 11] rfl (by kernel_rfl) (by kernel_rfl) ⟨⟨rfl, trivial⟩, ⟨rfl, trivial⟩, ⟨rfl, trivial⟩, ⟨rfl, trivial⟩, ⟨rfl, trivial⟩, trivial⟩ ⟨?_, ?_, trivial⟩
      ·refine ⟨_, rfl, rfl, OpX.of zac _ rfl ?_⟩
       let x9 : Nat × SV := (60, .one (.v (.bool true)))
       refine zag ({ s := x9 :: x8 :: x7 :: x10 :: x6 :: x5 :: aS, m := m10 :: m6 :: m5 :: aM, k := 5, f := f6a :: f6b :: f5a :: aF }) [11] rfl (by kernel_rfl) (by kernel_rfl) ⟨⟨rfl, trivial⟩, ⟨rfl, trivial⟩, ⟨rfl, trivial⟩, ⟨rfl, trivial⟩, ⟨rfl, trivial⟩, trivial⟩ ⟨?_, trivial⟩
       refine ⟨_, rfl, rfl, OpX.of zac _ rfl ?_⟩
       let m11 : Nat × LB := (4, .cells 41 ((TT.mk vk vn vnm vla vlc vls vaa vac vus).cells.map SA.v))
       refine zag ({ s := x9 :: x8 :: x7 :: x10 :: x6 :: x5 :: aS, m := m11 :: m10 :: m6 :: m5 :: aM, k := 5, f := f6a :: f6b :: f5a :: aF }) [12] rfl (by kernel_rfl) (by kernel_rfl) ⟨⟨rfl, trivial⟩, ⟨rfl, trivial⟩, ⟨rfl, trivial⟩, ⟨rfl, trivial⟩, ⟨rfl, trivial⟩, trivial⟩ ⟨?_, trivial⟩
       refine ⟨_, rfl, rfl, OpX.of zac _ rfl ?_⟩
       let x12 : Nat × SV := (15, .one (.v (.bool true)))
       refine zat _ rfl (by kernel_rfl) ⟨⟨rfl, trivial⟩, ⟨rfl, trivial⟩, ⟨rfl, trivial⟩, ⟨rfl, trivial⟩, ⟨rfl, trivial⟩, trivial⟩ ?_
       exact ⟨(TT.mk vk vn vnm vla vlc vls vaa vac vus), hx, zaa [(0, .blk 0), (1, .blk 1), (2, .own 2), (3, .blk 4)] rfl rfl rfl rfl (leB rfl) ⟨⟨_, rfl, rfl⟩, ⟨_, rfl, rfl⟩, ⟨_, rfl, rfl⟩, ⟨_, rfl, rfl⟩, ⟨_, rfl, rfl⟩, ⟨_, rfl, rfl⟩, ⟨_, rfl, rfl⟩, ⟨_, rfl, rfl⟩, ⟨_, rfl, rfl⟩, ⟨_, rfl, rfl⟩, trivial⟩ ⟨⟨_, rfl, rfl⟩, ⟨_, rfl, rfl⟩, ⟨_, _, rfl, rfl, rfl⟩, ⟨_, rfl, rfl⟩, trivial⟩ ⟨⟨oH.up _ _ _ _ _ _, fun w h => ⟨h.2.2.2.1, h.1⟩⟩, trivial⟩⟩
      ·refine ⟨_, rfl, rfl, OpX.of zac _ rfl ?_⟩
       let m11 : Nat × LB := (4, .cells 41 ((TT.mk vk vn vnm vla vlc vls vaa vac vus).cells.map SA.v))
       refine zag ({ s := x8 :: x7 :: x10 :: x6 :: x5 :: aS, m := m11 :: m10 :: m6 :: m5 :: aM, k := 5, f := f6a :: f6b :: f5a :: aF }) [9] rfl (by kernel_rfl) (by kernel_rfl) ⟨⟨rfl, trivial⟩, ⟨rfl, trivial⟩, ⟨rfl, trivial⟩, ⟨rfl, trivial⟩, ⟨rfl, trivial⟩, trivial⟩ ⟨?_, trivial⟩
       refine ⟨_, rfl, rfl, OpX.of zac _ rfl ?_⟩
       let x9 : Nat × SV := (60, .one (.v (.bool true)))
       refine zag ({ s := x9 :: x8 :: x7 :: x10 :: x6 :: x5 :: aS, m := m11 :: m10 :: m6 :: m5 :: aM, k := 5, f := f6a :: f6b :: f5a :: aF }) [12] rfl (by kernel_rfl) (by kernel_rfl) ⟨⟨rfl, trivial⟩, ⟨rfl, trivial⟩, ⟨rfl, trivial⟩, ⟨rfl, trivial⟩, ⟨rfl, trivial⟩, trivial⟩ ⟨?_, trivial⟩
       refine ⟨_, rfl, rfl, OpX.of zac _ rfl ?_⟩
       let x12 : Nat × SV := (15, .one (.v (.bool true)))
       refine zat _ rfl (by kernel_rfl) ⟨⟨rfl, trivial⟩, ⟨rfl, trivial⟩, ⟨rfl, trivial⟩, ⟨rfl, trivial⟩, ⟨rfl, trivial⟩, trivial⟩ ?_
       exact ⟨(TT.mk vk vn vnm vla vlc vls vaa vac vus), hx, zaa [(0, .blk 0), (1, .blk 1), (2, .own 2), (3, .blk 4)] rfl rfl rfl rfl (leB rfl) ⟨⟨_, rfl, rfl⟩, ⟨_, rfl, rfl⟩, ⟨_, rfl, rfl⟩, ⟨_, rfl, rfl⟩, ⟨_, rfl, rfl⟩, ⟨_, rfl, rfl⟩, ⟨_, rfl, rfl⟩, ⟨_, rfl, rfl⟩, ⟨_, rfl, rfl⟩, ⟨_, rfl, rfl⟩, trivial⟩ ⟨⟨_, rfl, rfl⟩, ⟨_, rfl, rfl⟩, ⟨_, _, rfl, rfl, rfl⟩, ⟨_, rfl, rfl⟩, trivial⟩ ⟨⟨oH.up _ _ _ _ _ _, fun w h => ⟨h.2.2.2.1, h.1⟩⟩, trivial⟩⟩
     ·refine ⟨_, rfl, rfl, OpX.of zac _ rfl ?_⟩
      let x9 : Nat × SV := (60, .one (.v (.bool true)))
      refine zag ({ s := x9 :: x7 :: x10 :: x6 :: x5 :: aS, m := m10 :: m6 :: m5 :: aM, k := 5, f := f6a :: f6b :: f5a :: aF }) [8] rfl (by kernel_rfl) (by kernel_rfl) ⟨⟨rfl, trivial⟩, ⟨rfl, trivial⟩, ⟨rfl, trivial⟩, ⟨rfl, trivial⟩, ⟨rfl, trivial⟩, trivial⟩ ⟨?_, trivial⟩
      refine ⟨_, rfl, rfl, OpX.of zac _ rfl ?_⟩
      let x8 : Nat × SV := (59, .agg ((TT.mk vk vn vnm vla vlc vls vaa vac vus).cells.map SA.v))
      refine zag ({ s := x8 :: x9 :: x7 :: x10 :: x6 :: x5 :: aS, m := m10 :: m6 :: m5 :: aM, k := 5, f := f6a :: f6b :: f5a :: aF }) [11] rfl (by kernel_rfl) (by kernel_rfl) ⟨⟨rfl, trivial⟩, ⟨rfl, trivial⟩, ⟨rfl, trivial⟩, ⟨rfl, trivial⟩, ⟨rfl, trivial⟩, trivial⟩ ⟨?_, trivial⟩
      refine ⟨_, rfl, rfl, OpX.of zac _ rfl ?_⟩
      let m11 : Nat × LB := (4, .cells 41 ((TT.mk vk vn vnm vla vlc vls vaa vac vus).cells.map SA.v))
      refine zag ({ s := x8 :: x9 :: x7 :: x10 :: x6 :: x5 :: aS, m := m11 :: m10 :: m6 :: m5 :: aM, k := 5, f := f6a :: f6b :: f5a :: aF }) [12] rfl (by kernel_rfl) (by kernel_rfl) ⟨⟨rfl, trivial⟩, ⟨rfl, trivial⟩, ⟨rfl, trivial⟩, ⟨rfl, trivial⟩, ⟨rfl, trivial⟩, trivial⟩ ⟨?_, trivial⟩
      refine ⟨_, rfl, rfl, OpX.of zac _ rfl ?_⟩
      let x12 : Nat × SV := (15, .one (.v (.bool true)))
      refine zat _ rfl (by kernel_rfl) ⟨⟨rfl, trivial⟩, ⟨rfl, trivial⟩, ⟨rfl, trivial⟩, ⟨rfl, trivial⟩, ⟨rfl, trivial⟩, trivial⟩ ?_
      exact ⟨(TT.mk vk vn vnm vla vlc vls vaa vac vus), hx, zaa [(0, .blk 0), (1, .blk 1), (2, .own 2), (3, .blk 4)] rfl rfl rfl rfl (leB rfl) ⟨⟨_, rfl, rfl⟩, ⟨_, rfl, rfl⟩, ⟨_, rfl, rfl⟩, ⟨_, rfl, rfl⟩, ⟨_, rfl, rfl⟩, ⟨_, rfl, rfl⟩, ⟨_, rfl, rfl⟩, ⟨_, rfl, rfl⟩, ⟨_, rfl, rfl⟩, ⟨_, rfl, rfl⟩, trivial⟩ ⟨⟨_, rfl, rfl⟩, ⟨_, rfl, rfl⟩, ⟨_, _, rfl, rfl, rfl⟩, ⟨_, rfl, rfl⟩, trivial⟩ ⟨⟨oH.up _ _ _ _ _ _, fun w h => ⟨h.2.2.2.1, h.1⟩⟩, trivial⟩⟩
   ·refine ⟨_, rfl, rfl, OpX.of zac _ rfl ?_⟩
    let x10 : Nat × SV := (14, .one (.p 4 0))
    let m10 : Nat × LB := (4, .cells 41 zap)
    refine zag ({ s := x10 :: x5 :: aS, m := m10 :: m5 :: aM, k := 5, f := f5a :: aF }) [6] rfl (by kernel_rfl) (by kernel_rfl) ⟨⟨rfl, rfl⟩, ⟨rfl, rfl⟩, ⟨rfl, ⟨{ n := 0 }, ⟨rfl, Nat.succ_pos _, fun w h => rfl⟩, rfl⟩⟩, ⟨rfl, ⟨{ cs := (TT.mk ka na sa laa lca lsa aaa aca usa).cells }, ⟨TT.cells_one (TT.mk ka na sa laa lca lsa aaa aca usa), rfl, fun w h => hacell w h.2.1⟩, rfl⟩⟩, ⟨rfl, trivial⟩, trivial⟩ ⟨?_, trivial⟩
    refine ⟨_, rfl, rfl, OpX.of zac _ rfl ?_⟩
    refine zdl 3 rfl (fun A' cp' f1 f2 f3 => ?_)
    refine zab [] (hput A' cp') rfl trivial rfl rfl (fun w h => ⟨⟨h.2.2.1.1.1.1, zhk dn f1 f2 f3 h.1 (hnames w h.2.2.1)⟩, (h.2.2.1.1.2.arg (j := 0) (t := (TT.mk ka na sa laa lca lsa aaa aca usa)) rfl).2⟩) (fun x _ => ?_) (fun x hx => ?_)
    ·obtain ⟨vk, vn, vnm, vla, vlc, vls, vaa, vac, vus⟩ := x
     exact ⟨rfl, rfl⟩
    have hx : x.tm = typ := hx
    obtain ⟨vk, vn, vnm, vla, vlc, vls, vaa, vac, vus⟩ := x
    let x6 : Nat × SV := (58, .tup [.agg ((TT.mk vk vn vnm vla vlc vls vaa vac vus).cells.map SA.v), .one (.v (.bool true))])
    let m6 : Nat × LB := (3, .dead)
    let f6a : World -> Prop := fun w => TTIn w (TT.mk vk vn vnm vla vlc vls vaa vac vus)
    let f6b : World -> Prop := fun w => SlAt w A' (ttsC (dn.map locT))
    refine zag ({ s := x6 :: x10 :: x5 :: aS, m := m6 :: m10 :: m5 :: aM, k := 5, f := f6a :: f6b :: f5a :: aF }) [7] rfl (by kernel_rfl) (by kernel_rfl) ⟨⟨rfl, trivial⟩, ⟨rfl, trivial⟩, ⟨rfl, trivial⟩, ⟨rfl, trivial⟩, ⟨rfl, trivial⟩, trivial⟩ ⟨?_, trivial⟩
    refine ⟨_, rfl, rfl, OpX.of zac _ rfl ?_⟩
    let x7 : Nat × SV := (51, .tup [.agg ((TT.mk vk vn vnm vla vlc vls vaa vac vus).cells.map SA.v), .one (.v (.bool true))])
    refine zag ({ s := x7 :: x6 :: x10 :: x5 :: aS, m := m6 :: m10 :: m5 :: aM, k := 5, f := f6a :: f6b :: f5a :: aF }) [8, 9] rfl (by kernel_rfl) (by kernel_rfl) ⟨⟨rfl, trivial⟩, ⟨rfl, trivial⟩, ⟨rfl, trivial⟩, ⟨rfl, trivial⟩, ⟨rfl, trivial⟩, trivial⟩ ⟨?_, ?_, trivial⟩
    ·refine ⟨_, rfl, rfl, OpX.of zac _ rfl ?_⟩
     let x8 : Nat × SV := (59, .agg ((TT.mk vk vn vnm vla vlc vls vaa vac vus).cells.map SA.v))
     refine zag ({ s := x8 :: x7 :: x6 :: x10 :: x5 :: aS, m := m6 :: m10 :: m5 :: aM, k := 5, f := f6a :: f6b :: f5a :: aF }) [9, 11] rfl (by kernel_rfl) (by kernel_rfl) ⟨⟨rfl, trivial⟩, ⟨rfl, trivial⟩, ⟨rfl, trivial⟩, ⟨rfl, trivial⟩, ⟨rfl, trivial⟩, trivial⟩ ⟨?_, ?_, trivial⟩
     ·refine ⟨_, rfl, rfl, OpX.of zac _ rfl ?_⟩
      let x9 : Nat × SV := (60, .one (.v (.bool true)))
      refine zag ({ s := x9 :: x8 :: x7 :: x6 :: x10 :: x5 :: aS, m := m6 :: m10 :: m5 :: aM, k := 5, f := f6a :: f6b :: f5a :: aF }) [11] rfl (by kernel_rfl) (by kernel_rfl) ⟨⟨rfl, trivial⟩, ⟨rfl, trivial⟩, ⟨rfl, trivial⟩, ⟨rfl, trivial⟩, ⟨rfl, trivial⟩, trivial⟩ ⟨?_, trivial⟩
      refine ⟨_, rfl, rfl, OpX.of zac _ rfl ?_⟩
      let m11 : Nat × LB := (4, .cells 41 ((TT.mk vk vn vnm vla vlc vls vaa vac vus).cells.map SA.v))
      refine zag ({ s := x9 :: x8 :: x7 :: x6 :: x10 :: x5 :: aS, m := m11 :: m6 :: m10 :: m5 :: aM, k := 5, f := f6a :: f6b :: f5a :: aF }) [12] rfl (by kernel_rfl) (by kernel_rfl) ⟨⟨rfl, trivial⟩, ⟨rfl, trivial⟩, ⟨rfl, trivial⟩, ⟨rfl, trivial⟩, ⟨rfl, trivial⟩, trivial⟩ ⟨?_, trivial⟩
      refine ⟨_, rfl, rfl, OpX.of zac _ rfl ?_⟩
      let x12 : Nat × SV := (15, .one (.v (.bool true)))
      refine zat _ rfl (by kernel_rfl) ⟨⟨rfl, trivial⟩, ⟨rfl, trivial⟩, ⟨rfl, trivial⟩, ⟨rfl, trivial⟩, ⟨rfl, trivial⟩, trivial⟩ ?_
      exact ⟨(TT.mk vk vn vnm vla vlc vls vaa vac vus), hx, zaa [(0, .blk 0), (1, .blk 1), (2, .own 2), (3, .blk 4)] rfl rfl rfl rfl (leB rfl) ⟨⟨_, rfl, rfl⟩, ⟨_, rfl, rfl⟩, ⟨_, rfl, rfl⟩, ⟨_, rfl, rfl⟩, ⟨_, rfl, rfl⟩, ⟨_, rfl, rfl⟩, ⟨_, rfl, rfl⟩, ⟨_, rfl, rfl⟩, ⟨_, rfl, rfl⟩, ⟨_, rfl, rfl⟩, trivial⟩ ⟨⟨_, rfl, rfl⟩, ⟨_, rfl, rfl⟩, ⟨_, _, rfl, rfl, rfl⟩, ⟨_, rfl, rfl⟩, trivial⟩ ⟨⟨oH.up _ _ _ _ _ _, fun w h => ⟨h.2.2.2.1, h.1⟩⟩, trivial⟩⟩
     ·refine ⟨_, rfl, rfl, OpX.of zac _ rfl ?_⟩
      let m11 : Nat × LB := (4, .cells 41 ((TT.mk vk vn vnm vla vlc vls vaa vac vus).cells.map SA.v))
      refine zag ({ s := x8 :: x7 :: x6 :: x10 :: x5 :: aS, m := m11 :: m6 :: m10 :: m5 :: aM, k := 5, f := f6a :: f6b :: f5a :: aF }) [9] rfl (by kernel_rfl) (by kernel_rfl) ⟨⟨rfl, trivial⟩, ⟨rfl, trivial⟩, ⟨rfl, trivial⟩, ⟨rfl, trivial⟩, ⟨rfl, trivial⟩, trivial⟩ ⟨?_, trivial⟩
      refine ⟨_, rfl, rfl, OpX.of zac _ rfl ?_⟩
      let x9 : Nat × SV := (60, .one (.v (.bool true)))
      refine zag ({ s := x9 :: x8 :: x7 :: x6 :: x10 :: x5 :: aS, m := m11 :: m6 :: m10 :: m5 :: aM, k := 5, f := f6a :: f6b :: f5a :: aF }) [12] rfl (by kernel_rfl) (by kernel_rfl) ⟨⟨rfl, trivial⟩, ⟨rfl, trivial⟩, ⟨rfl, trivial⟩, ⟨rfl, trivial⟩, ⟨rfl, trivial⟩, trivial⟩ ⟨?_, trivial⟩
      refine ⟨_, rfl, rfl, OpX.of zac _ rfl ?_⟩
      let x12 : Nat × SV := (15, .one (.v (.bool true)))
      refine zat _ rfl (by kernel_rfl) ⟨⟨rfl, trivial⟩, ⟨rfl, trivial⟩, ⟨rfl, trivial⟩, ⟨rfl, trivial⟩, ⟨rfl, trivial⟩, trivial⟩ ?_
      exact ⟨(TT.mk vk vn vnm vla vlc vls vaa vac vus), hx, zaa [(0, .blk 0), (1, .blk 1), (2, .own 2), (3, .blk 4)] rfl rfl rfl rfl (leB rfl) ⟨⟨_, rfl, rfl⟩, ⟨_, rfl, rfl⟩, ⟨_, rfl, rfl⟩, ⟨_, rfl, rfl⟩, ⟨_, rfl, rfl⟩, ⟨_, rfl, rfl⟩, ⟨_, rfl, rfl⟩, ⟨_, rfl, rfl⟩, ⟨_, rfl, rfl⟩, ⟨_, rfl, rfl⟩, trivial⟩ ⟨⟨_, rfl, rfl⟩, ⟨_, rfl, rfl⟩, ⟨_, _, rfl, rfl, rfl⟩, ⟨_, rfl, rfl⟩, trivial⟩ ⟨⟨oH.up _ _ _ _ _ _, fun w h => ⟨h.2.2.2.1, h.1⟩⟩, trivial⟩⟩
    ·refine ⟨_, rfl, rfl, OpX.of zac _ rfl ?_⟩
     let x9 : Nat × SV := (60, .one (.v (.bool true)))
     refine zag ({ s := x9 :: x7 :: x6 :: x10 :: x5 :: aS, m := m6 :: m10 :: m5 :: aM, k := 5, f := f6a :: f6b :: f5a :: aF }) [8] rfl (by kernel_rfl) (by kernel_rfl) ⟨⟨rfl, trivial⟩, ⟨rfl, trivial⟩, ⟨rfl, trivial⟩, ⟨rfl, trivial⟩, ⟨rfl, trivial⟩, trivial⟩ ⟨?_, trivial⟩
     refine ⟨_, rfl, rfl, OpX.of zac _ rfl ?_⟩
     let x8 : Nat × SV := (59, .agg ((TT.mk vk vn vnm vla vlc vls vaa vac vus).cells.map SA.v))
     refine zag ({ s := x8 :: x9 :: x7 :: x6 :: x10 :: x5 :: aS, m := m6 :: m10 :: m5 :: aM, k := 5, f := f6a :: f6b :: f5a :: aF }) [11] rfl (by kernel_rfl) (by kernel_rfl) ⟨⟨rfl, trivial⟩, ⟨rfl, trivial⟩, ⟨rfl, trivial⟩, ⟨rfl, trivial⟩, ⟨rfl, trivial⟩, trivial⟩ ⟨?_, trivial⟩
     refine ⟨_, rfl, rfl, OpX.of zac _ rfl ?_⟩
     let m11 : Nat × LB := (4, .cells 41 ((TT.mk vk vn vnm vla vlc vls vaa vac vus).cells.map SA.v))
     refine zag ({ s := x8 :: x9 :: x7 :: x6 :: x10 :: x5 :: aS, m := m11 :: m6 :: m10 :: m5 :: aM, k := 5, f := f6a :: f6b :: f5a :: aF }) [12] rfl (by kernel_rfl) (by kernel_rfl) ⟨⟨rfl, trivial⟩, ⟨rfl, trivial⟩, ⟨rfl, trivial⟩, ⟨rfl, trivial⟩, ⟨rfl, trivial⟩, trivial⟩ ⟨?_, trivial⟩
     refine ⟨_, rfl, rfl, OpX.of zac _ rfl ?_⟩
     let x12 : Nat × SV := (15, .one (.v (.bool true)))
     refine zat _ rfl (by kernel_rfl) ⟨⟨rfl, trivial⟩, ⟨rfl, trivial⟩, ⟨rfl, trivial⟩, ⟨rfl, trivial⟩, ⟨rfl, trivial⟩, trivial⟩ ?_
     exact ⟨(TT.mk vk vn vnm vla vlc vls vaa vac vus), hx, zaa [(0, .blk 0), (1, .blk 1), (2, .own 2), (3, .blk 4)] rfl rfl rfl rfl (leB rfl) ⟨⟨_, rfl, rfl⟩, ⟨_, rfl, rfl⟩, ⟨_, rfl, rfl⟩, ⟨_, rfl, rfl⟩, ⟨_, rfl, rfl⟩, ⟨_, rfl, rfl⟩, ⟨_, rfl, rfl⟩, ⟨_, rfl, rfl⟩, ⟨_, rfl, rfl⟩, ⟨_, rfl, rfl⟩, trivial⟩ ⟨⟨_, rfl, rfl⟩, ⟨_, rfl, rfl⟩, ⟨_, _, rfl, rfl, rfl⟩, ⟨_, rfl, rfl⟩, trivial⟩ ⟨⟨oH.up _ _ _ _ _ _, fun w h => ⟨h.2.2.2.1, h.1⟩⟩, trivial⟩⟩
  ·refine ⟨_, rfl, rfl, OpX.of zac _ rfl ?_⟩
   let x10 : Nat × SV := (14, .one (.p 3 0))
   let m10 : Nat × LB := (3, .cells 41 zap)
   refine zag ({ s := x10 :: aS, m := m10 :: aM, k := 4, f := aF }) [5] rfl (by kernel_rfl) (by kernel_rfl) ⟨⟨rfl, rfl⟩, ⟨rfl, rfl⟩, ⟨rfl, ⟨{ n := 0 }, ⟨rfl, Nat.succ_pos _, fun w h => rfl⟩, rfl⟩⟩, ⟨rfl, ⟨{ cs := (TT.mk ka na sa laa lca lsa aaa aca usa).cells }, ⟨TT.cells_one (TT.mk ka na sa laa lca lsa aaa aca usa), rfl, fun w h => hacell w h.1⟩, rfl⟩⟩, ⟨rfl, rfl⟩, trivial⟩ ⟨?_, trivial⟩
   refine ⟨_, rfl, rfl, OpX.of zac _ rfl ?_⟩
   refine zeu 2 rfl (fun A' cp' => [.one (.v (.slice A' dn.length cp'))]) (fun A' => lcP A' dn) (fun A' cp' _ _ _ => zd1 A' cp' dn hdl) (fun A' cp' x hx => by rw [List.mem_singleton.1 hx]; trivial) (fun e e' A' cp' he => by show [Value.slice A' dn.length cp'] = [e.rv 2]; rw [he]) (fun A' w _ h => h) (fun _ => rfl) (fun _ => rfl) (fun _ _ => ⟨rfl, rfl⟩) (fun _ _ => ?_)
   let x5 : Nat × SV := (57, .one (.row 4))
   let m5 : Nat × LB := (4, .own 41 5 dn.length (ttsC (dn.map locT)))
   let f5a : World -> Prop := fun _ => True
   refine zag ({ s := x5 :: x10 :: aS, m := m5 :: m10 :: aM, k := 5, f := f5a :: aF }) [6] rfl (by kernel_rfl) (by kernel_rfl) ⟨⟨rfl, rfl⟩, ⟨rfl, rfl⟩, ⟨rfl, ⟨{ n := 0 }, ⟨rfl, Nat.succ_pos _, fun w h => rfl⟩, rfl⟩⟩, ⟨rfl, ⟨{ cs := (TT.mk ka na sa laa lca lsa aaa aca usa).cells }, ⟨TT.cells_one (TT.mk ka na sa laa lca lsa aaa aca usa), rfl, fun w h => hacell w h.2.1⟩, rfl⟩⟩, ⟨rfl, trivial⟩, trivial⟩ ⟨?_, trivial⟩
   refine ⟨_, rfl, rfl, OpX.of zac _ rfl ?_⟩
   refine zdl 4 rfl (fun A' cp' f1 f2 f3 => ?_)
   refine zab [] (hput A' cp') rfl trivial rfl rfl (fun w h => ⟨⟨h.2.2.1.1.1.1, zhk dn f1 f2 f3 h.1 (hnames w h.2.2.1)⟩, (h.2.2.1.1.2.arg (j := 0) (t := (TT.mk ka na sa laa lca lsa aaa aca usa)) rfl).2⟩) (fun x _ => ?_) (fun x hx => ?_)
   ·obtain ⟨vk, vn, vnm, vla, vlc, vls, vaa, vac, vus⟩ := x
    exact ⟨rfl, rfl⟩
   have hx : x.tm = typ := hx
   obtain ⟨vk, vn, vnm, vla, vlc, vls, vaa, vac, vus⟩ := x
   let x6 : Nat × SV := (58, .tup [.agg ((TT.mk vk vn vnm vla vlc vls vaa vac vus).cells.map SA.v), .one (.v (.bool true))])
   let m6 : Nat × LB := (4, .dead)
   let f6a : World -> Prop := fun w => TTIn w (TT.mk vk vn vnm vla vlc vls vaa vac vus)
   let f6b : World -> Prop := fun w => SlAt w A' (ttsC (dn.map locT))
   refine zag ({ s := x6 :: x5 :: x10 :: aS, m := m6 :: m5 :: m10 :: aM, k := 5, f := f6a :: f6b :: f5a :: aF }) [7] rfl (by kernel_rfl) (by kernel_rfl) ⟨⟨rfl, trivial⟩, ⟨rfl, trivial⟩, ⟨rfl, trivial⟩, ⟨rfl, trivial⟩, ⟨rfl, trivial⟩, trivial⟩ ⟨?_, trivial⟩
   refine ⟨_, rfl, rfl, OpX.of zac _ rfl ?_⟩
   let x7 : Nat × SV := (51, .tup [.agg ((TT.mk vk vn vnm vla vlc vls vaa vac vus).cells.map SA.v), .one (.v (.bool true))])
   refine zag ({ s := x7 :: x6 :: x5 :: x10 :: aS, m := m6 :: m5 :: m10 :: aM, k := 5, f := f6a :: f6b :: f5a :: aF }) [8, 9] rfl (by kernel_rfl) (by kernel_rfl) ⟨⟨rfl, trivial⟩, ⟨rfl, trivial⟩, ⟨rfl, trivial⟩, ⟨rfl, trivial⟩, ⟨rfl, trivial⟩, trivial⟩ ⟨?_, ?_, trivial⟩
   ·refine ⟨_, rfl, rfl, OpX.of zac _ rfl ?_⟩
    let x8 : Nat × SV := (59, .agg ((TT.mk vk vn vnm vla vlc vls vaa vac vus).cells.map SA.v))
    refine zag ({ s := x8 :: x7 :: x6 :: x5 :: x10 :: aS, m := m6 :: m5 :: m10 :: aM, k := 5, f := f6a :: f6b :: f5a :: aF }) [9, 11] rfl (by kernel_rfl) (by kernel_rfl) ⟨⟨rfl, trivial⟩, ⟨rfl, trivial⟩, ⟨rfl, trivial⟩, ⟨rfl, trivial⟩, ⟨rfl, trivial⟩, trivial⟩ ⟨?_, ?_, trivial⟩
    ·refine ⟨_, rfl, rfl, OpX.of zac _ rfl ?_⟩
     let x9 : Nat × SV := (60, .one (.v (.bool true)))
     refine zag ({ s := x9 :: x8 :: x7 :: x6 :: x5 :: x10 :: aS, m := m6 :: m5 :: m10 :: aM, k := 5, f := f6a :: f6b :: f5a :: aF }) [11] rfl (by kernel_rfl) (by kernel_rfl) ⟨⟨rfl, trivial⟩, ⟨rfl, trivial⟩, ⟨rfl, trivial⟩, ⟨rfl, trivial⟩, ⟨rfl, trivial⟩, trivial⟩ ⟨?_, trivial⟩
     refine ⟨_, rfl, rfl, OpX.of zac _ rfl ?_⟩
     let m11 : Nat × LB := (3, .cells 41 ((TT.mk vk vn vnm vla vlc vls vaa vac vus).cells.map SA.v))
     refine zag ({ s := x9 :: x8 :: x7 :: x6 :: x5 :: x10 :: aS, m := m11 :: m6 :: m5 :: m10 :: aM, k := 5, f := f6a :: f6b :: f5a :: aF }) [12] rfl (by kernel_rfl) (by kernel_rfl) ⟨⟨rfl, trivial⟩, ⟨rfl, trivial⟩, ⟨rfl, trivial⟩, ⟨rfl, trivial⟩, ⟨rfl, trivial⟩, trivial⟩ ⟨?_, trivial⟩
     refine ⟨_, rfl, rfl, OpX.of zac _ rfl ?_⟩
     let x12 : Nat × SV := (15, .one (.v (.bool true)))
     refine zat _ rfl (by kernel_rfl) ⟨⟨rfl, trivial⟩, ⟨rfl, trivial⟩, ⟨rfl, trivial⟩, ⟨rfl, trivial⟩, ⟨rfl, trivial⟩, trivial⟩ ?_
     exact ⟨(TT.mk vk vn vnm vla vlc vls vaa vac vus), hx, zaa [(0, .blk 0), (1, .blk 1), (2, .own 2), (3, .blk 3)] rfl rfl rfl rfl (leB rfl) ⟨⟨_, rfl, rfl⟩, ⟨_, rfl, rfl⟩, ⟨_, rfl, rfl⟩, ⟨_, rfl, rfl⟩, ⟨_, rfl, rfl⟩, ⟨_, rfl, rfl⟩, ⟨_, rfl, rfl⟩, ⟨_, rfl, rfl⟩, ⟨_, rfl, rfl⟩, ⟨_, rfl, rfl⟩, trivial⟩ ⟨⟨_, rfl, rfl⟩, ⟨_, rfl, rfl⟩, ⟨_, _, rfl, rfl, rfl⟩, ⟨_, rfl, rfl⟩, trivial⟩ ⟨⟨oH.up _ _ _ _ _ _, fun w h => ⟨h.2.2.2.1, h.1⟩⟩, trivial⟩⟩
    ·refine ⟨_, rfl, rfl, OpX.of zac _ rfl ?_⟩
     let m11 : Nat × LB := (3, .cells 41 ((TT.mk vk vn vnm vla vlc vls vaa vac vus).cells.map SA.v))
     refine zag ({ s := x8 :: x7 :: x6 :: x5 :: x10 :: aS, m := m11 :: m6 :: m5 :: m10 :: aM, k := 5, f := f6a :: f6b :: f5a :: aF }) [9] rfl (by kernel_rfl) (by kernel_rfl) ⟨⟨rfl, trivial⟩, ⟨rfl, trivial⟩, ⟨rfl, trivial⟩, ⟨rfl, trivial⟩, ⟨rfl, trivial⟩, trivial⟩ ⟨?_, trivial⟩
     refine ⟨_, rfl, rfl, OpX.of zac _ rfl ?_⟩
     let x9 : Nat × SV := (60, .one (.v (.bool true)))
     refine zag ({ s := x9 :: x8 :: x7 :: x6 :: x5 :: x10 :: aS, m := m11 :: m6 :: m5 :: m10 :: aM, k := 5, f := f6a :: f6b :: f5a :: aF }) [12] rfl (by kernel_rfl) (by kernel_rfl) ⟨⟨rfl, trivial⟩, ⟨rfl, trivial⟩, ⟨rfl, trivial⟩, ⟨rfl, trivial⟩, ⟨rfl, trivial⟩, trivial⟩ ⟨?_, trivial⟩
     refine ⟨_, rfl, rfl, OpX.of zac _ rfl ?_⟩
     let x12 : Nat × SV := (15, .one (.v (.bool true)))
     refine zat _ rfl (by kernel_rfl) ⟨⟨rfl, trivial⟩, ⟨rfl, trivial⟩, ⟨rfl, trivial⟩, ⟨rfl, trivial⟩, ⟨rfl, trivial⟩, trivial⟩ ?_
     exact ⟨(TT.mk vk vn vnm vla vlc vls vaa vac vus), hx, zaa [(0, .blk 0), (1, .blk 1), (2, .own 2), (3, .blk 3)] rfl rfl rfl rfl (leB rfl) ⟨⟨_, rfl, rfl⟩, ⟨_, rfl, rfl⟩, ⟨_, rfl, rfl⟩, ⟨_, rfl, rfl⟩, ⟨_, rfl, rfl⟩, ⟨_, rfl, rfl⟩, ⟨_, rfl, rfl⟩, ⟨_, rfl, rfl⟩, ⟨_, rfl, rfl⟩, ⟨_, rfl, rfl⟩, trivial⟩ ⟨⟨_, rfl, rfl⟩, ⟨_, rfl, rfl⟩, ⟨_, _, rfl, rfl, rfl⟩, ⟨_, rfl, rfl⟩, trivial⟩ ⟨⟨oH.up _ _ _ _ _ _, fun w h => ⟨h.2.2.2.1, h.1⟩⟩, trivial⟩⟩
   ·refine ⟨_, rfl, rfl, OpX.of zac _ rfl ?_⟩
    let x9 : Nat × SV := (60, .one (.v (.bool true)))
    refine zag ({ s := x9 :: x7 :: x6 :: x5 :: x10 :: aS, m := m6 :: m5 :: m10 :: aM, k := 5, f := f6a :: f6b :: f5a :: aF }) [8] rfl (by kernel_rfl) (by kernel_rfl) ⟨⟨rfl, trivial⟩, ⟨rfl, trivial⟩, ⟨rfl, trivial⟩, ⟨rfl, trivial⟩, ⟨rfl, trivial⟩, trivial⟩ ⟨?_, trivial⟩
    refine ⟨_, rfl, rfl, OpX.of zac _ rfl ?_⟩
    let x8 : Nat × SV := (59, .agg ((TT.mk vk vn vnm vla vlc vls vaa vac vus).cells.map SA.v))
    refine zag ({ s := x8 :: x9 :: x7 :: x6 :: x5 :: x10 :: aS, m := m6 :: m5 :: m10 :: aM, k := 5, f := f6a :: f6b :: f5a :: aF }) [11] rfl (by kernel_rfl) (by kernel_rfl) ⟨⟨rfl, trivial⟩, ⟨rfl, trivial⟩, ⟨rfl, trivial⟩, ⟨rfl, trivial⟩, ⟨rfl, trivial⟩, trivial⟩ ⟨?_, trivial⟩
    refine ⟨_, rfl, rfl, OpX.of zac _ rfl ?_⟩
    let m11 : Nat × LB := (3, .cells 41 ((TT.mk vk vn vnm vla vlc vls vaa vac vus).cells.map SA.v))
    refine zag ({ s := x8 :: x9 :: x7 :: x6 :: x5 :: x10 :: aS, m := m11 :: m6 :: m5 :: m10 :: aM, k := 5, f := f6a :: f6b :: f5a :: aF }) [12] rfl (by kernel_rfl) (by kernel_rfl) ⟨⟨rfl, trivial⟩, ⟨rfl, trivial⟩, ⟨rfl, trivial⟩, ⟨rfl, trivial⟩, ⟨rfl, trivial⟩, trivial⟩ ⟨?_, trivial⟩
    refine ⟨_, rfl, rfl, OpX.of zac _ rfl ?_⟩
    let x12 : Nat × SV := (15, .one (.v (.bool true)))
    refine zat _ rfl (by kernel_rfl) ⟨⟨rfl, trivial⟩, ⟨rfl, trivial⟩, ⟨rfl, trivial⟩, ⟨rfl, trivial⟩, ⟨rfl, trivial⟩, trivial⟩ ?_
    exact ⟨(TT.mk vk vn vnm vla vlc vls vaa vac vus), hx, zaa [(0, .blk 0), (1, .blk 1), (2, .own 2), (3, .blk 3)] rfl rfl rfl rfl (leB rfl) ⟨⟨_, rfl, rfl⟩, ⟨_, rfl, rfl⟩, ⟨_, rfl, rfl⟩, ⟨_, rfl, rfl⟩, ⟨_, rfl, rfl⟩, ⟨_, rfl, rfl⟩, ⟨_, rfl, rfl⟩, ⟨_, rfl, rfl⟩, ⟨_, rfl, rfl⟩, ⟨_, rfl, rfl⟩, trivial⟩ ⟨⟨_, rfl, rfl⟩, ⟨_, rfl, rfl⟩, ⟨_, _, rfl, rfl, rfl⟩, ⟨_, rfl, rfl⟩, trivial⟩ ⟨⟨oH.up _ _ _ _ _ _, fun w h => ⟨h.2.2.2.1, h.1⟩⟩, trivial⟩⟩
 obtain ⟨vk, vn, vnm, vla, vlc, vls, vaa, vac, vus⟩ := x
 have hcont := hnext (TT.mk vk vn vnm vla vlc vls vaa vac vus) hx
 refine zaf zac [] _ _ _ ?_
 refine ⟨{}, ⟨trivial, by decide, .inr rfl, ?_, ?_⟩, ?_⟩
 ·show dn.length + 1 <= maxLen
  simp only [maxLen]; omega
 ·show (dn.length + 1) * 96 <= 140737488355328
  omega
 refine ⟨{ n := 1 }, ⟨rfl, Nat.succ_lt_succ (Nat.succ_pos _), fun w h => rfl⟩, ?_⟩
 refine ⟨{ cs := (TT.mk kb nb sb lab lcb lsb aab acb usb).cells }, ⟨TT.cells_one (TT.mk kb nb sb lab lcb lsb aab acb usb), rfl, fun w h => ?_⟩, ?_⟩
 ·obtain ⟨⟨a, ha, hc⟩, _⟩ := h.1.1.1.2.arg (j := 1) (t := (TT.mk kb nb sb lab lcb lsb aab acb usb)) rfl
  cases ha
  exact ⟨_, rfl, hc⟩
 refine ⟨(dn ++ [(nm, (TT.mk vk vn vnm vla vlc vls vaa vac vus))], (TT.mk kb nb sb lab lcb lsb aab acb usb)), ⟨?_, ?_, ?_, ?_⟩, ?_, ?_⟩
 ·simp only [List.length_append, List.length_singleton]; omega
 ·show za8 ((TT.mk kb nb sb lab lcb lsb aab acb usb)).tm <= 3000
  omega
 ·intro l hl
  rcases List.mem_append.1 hl with hl | hl
  ·exact hsz l hl
  ·rw [List.mem_singleton.1 hl]; exact hnms
 ·simp only [List.length_append, List.length_singleton]
  exact hcont
 ·simp only [List.length_append, List.length_singleton]; omega
 exact zaa [(0, .blk 0), (1, .blk 1), (2, .own 5)] rfl rfl rfl rfl (leB rfl) ⟨⟨_, rfl, rfl⟩, ⟨_, rfl, rfl⟩, ⟨_, rfl, rfl⟩, ⟨_, rfl, rfl⟩, ⟨_, rfl, rfl⟩, ⟨_, rfl, rfl⟩, ⟨_, rfl, by simp only [List.length_append, List.length_singleton]; exact oneI (za9 (by omega) (by omega))⟩, trivial⟩ ⟨⟨_, rfl, rfl⟩, ⟨_, rfl, rfl⟩, ⟨_, _, rfl, by simp, by simp [locC, za6, TT.cells]⟩, trivial⟩ ⟨⟨oG.up _ _ _ _ _, fun w h => ⟨⟨h.1.1.1.1, (h.1.1.1.2.arg (j := 1) (t := (TT.mk kb nb sb lab lcb lsb aab acb usb)) rfl).2⟩, fun l hl => (List.mem_append.1 hl).elim (h.1.1.2 l) (fun hl => by rw [List.mem_singleton.1 hl]; exact h.1.2)⟩⟩, trivial⟩
end Go.Proofs.YtmkpiekbpakigaaDoor
end
