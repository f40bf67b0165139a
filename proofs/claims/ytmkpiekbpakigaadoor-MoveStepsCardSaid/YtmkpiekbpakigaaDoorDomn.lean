/- What the claim needs of Al4, in one text. -/
import Derived.Test.YtmkpiekbpakigaaDoorDomm
section
set_option linter.unusedVariables false
set_option linter.unusedSimpArgs false
namespace Go.Proofs.YtmkpiekbpakigaaDoor
open Go.RowKit Go.Proofs.Base Go.Proofs.Sym
theorem zal.drawY {P : Program} {T : Sym.Tab} {N : Nat} {ops : Array Oper} {K : Exit -> St -> Prop} {st : St} (hT : T.Ok P) {id : Nat} (h : zri P T N (fun _ => True) ops (K .normal) st) : zal P N (.region id ops true) K st :=
 ⟨fun cx e a w hn hS => (zaw.drawY (Cc := fun _ => True) hT h).run cx e a w trivial hn hS⟩
theorem zbi (dn : List (ByteArray × TT)) (h : dn.map locM = [(sP, cT sA), (sQ, cT sP)]) : ∃ u0 u1, dn = [(sP, u0), (sQ, u1)] /\ u0.tm = cT sA /\ u1.tm = cT sP := by
 match dn, h with
 | [], h => exact (by simp at h)
 | [_], h => exact (by simp at h)
 | [(a, x), (b, y)], h =>
  simp only [List.map_cons, List.map_nil, locM, List.cons.injEq, Prod.mk.injEq, and_true] at h
  obtain ⟨⟨rfl, h1⟩, rfl, h2⟩ := h
  exact ⟨x, y, rfl, h1, h2⟩
 | _ :: _ :: _ :: _, h => exact (by simp at h)
theorem am_G (x : TT) (h : x.tm = tG) : ∃ a b : TT, TT.args x = [a, b] /\ (match b with | .mk _ n _ _ _ _ _ _ _ => n) = 3 := by
 obtain ⟨k, n, s, la, lc, ls, aa, ac, us⟩ := x
 rw [zbz] at h
 have h : Tm.mk k n s ls (us.map TT.tm) = .mk 6 0 ⟨#[]⟩ [] [cT sA, vT 3] := h
 injection h with _ _ _ _ h
 match us, h with
 | [], h => exact (by simp at h)
 | [_], h => exact (by simp at h)
 | [a, b], h =>
  refine ⟨a, b, rfl, ?_⟩
  obtain ⟨bk, bn, bs, bla, blc, bls, baa, bac, bus⟩ := b
  simp only [List.map_cons, List.map_nil, List.cons.injEq, and_true] at h
  have h2 := h.2
  rw [zbz] at h2
  injection h2
 | _ :: _ :: _ :: _, h => exact (by simp at h)
theorem am_W (x : TT) (h : x.tm = tW) : ∃ l : Lv, (match x with | .mk _ _ _ _ _ ls _ _ _ => ls) = [l] /\ l.b = 3 := by
 obtain ⟨k, n, s, la, lc, ls, aa, ac, us⟩ := x
 rw [zbz] at h
 have h : Tm.mk k n s ls (us.map TT.tm) = .mk 3 0 ⟨#[]⟩ [⟨3, -1, -1, -1, -1⟩] [] := h
 injection h with _ _ _ h _
 exact ⟨_, h, rfl⟩
theorem zv5 (x : TT) (h : x.tm = cT sP) : (match x with | .mk _ _ s _ _ _ _ _ _ => s) = sP := by
 obtain ⟨k, n, s, la, lc, ls, aa, ac, us⟩ := x
 rw [zbz] at h
 have h : Tm.mk k n s ls (us.map TT.tm) = .mk 4 0 sP [] [] := h
 injection h
theorem zpc {w : World} {k n : Int} {s : ByteArray} {la : Option Addr} {lc : Nat} {ls : List Lv} {aa : Option Addr} {ac : Nat} {us : List TT} (h : TTIn w (.mk k n s la lc ls aa ac us)) : TsIn w aa ac us := by
 unfold TTIn at h
 exact ⟨h.2, h.1.haa, h.1.hac, h.1.ham⟩
theorem ztl {w : World} {k n : Int} {s : ByteArray} {la : Option Addr} {lc : Nat} {ls : List Lv} {aa : Option Addr} {ac : Nat} {us : List TT} (h : TTIn w (.mk k n s la lc ls aa ac us)) : zcv w la ls := by
 unfold TTIn at h
 exact h.1.hls
theorem vN0 (w : World) : TTIn w (vN 0) := zyn w (I64.small _ (by decide) (by decide))
theorem vN1 (w : World) : TTIn w (vN 1) := zyn w (I64.small _ (by decide) (by decide))
theorem cNa (w : World) {s : ByteArray} (h : s.size <= maxLen := by decide) : TTIn w (cN s) := zy7 w h
theorem cstY {Cc : Cx -> Prop} {ops : Array Oper} {tb C : List Nat} {ds : List (Nat × Dl)} {K : St -> Prop} {n : Nat} {L : List Nat} {st : St} {i N : Nat} {o : Oper} {sg : Sig} (h1 : ops[i]? = some o) (h2 : o.guard = none) (h3 : sig tab (rst N ops tb ds i o st) o = sg)
  (h : sigK Tryd.prog sg (rst N ops tb ds i o st) (fun v st' => cgoY Tryd.prog tab N Cc ops tb C ds K n (i :: L) (({ st' with s := st.s } : St).put N o.dst v)) (fun _ _ => False)) : zv1 Tryd.prog tab N Cc ops tb C ds K n L st i := ⟨_, h1, h2, OpX.of zac _ h3 h⟩
theorem cstX {Cc : Cx -> Prop} {ops : Array Oper} {tb C : List Nat} {ds : List (Nat × Dl)} {K : St -> Prop} {n : Nat} {L : List Nat} {st : St} {i N : Nat} {o : Oper} {sg : Sig} (h1 : ops[i]? = some o) (h2 : o.guard = none) (h3 : sig tab (rst N ops tb ds i o st) o = sg)
  (h : sigK Tryd.prog sg (rst N ops tb ds i o st) (fun v st' => cgoX Tryd.prog tab N Cc ops tb C ds K n (i :: L) (({ st' with s := st.s } : St).put N o.dst v)) (fun _ _ => False)) : zvl Tryd.prog tab N Cc ops tb C ds K n L st i := ⟨_, h1, h2, OpX.of zac _ h3 h⟩
theorem zae {P : Program} {T : Sym.Tab} {N : Nat} {Cc : Cx -> Prop} {ops : Array Oper} {tb C : List Nat} {ds : List (Nat × Dl)} {K : St -> Prop} {n : Nat} {L : List Nat} {st : St} (i : Nat) (v : SV) (o : Oper) (hn : C.all (fun i => hasN i L) = false) (hs : ziv T N ops tb ds L st ds) (h1 : zjr ops tb C ds L i = true) (h2 : ops[i]? = some o) (h3 : zlg o = true) (h4 : sig T (rst N ops tb ds i o st) o = .det v) (h : cgoY P T N Cc ops tb C ds K n (i :: L) (st.put N o.dst v)) : cgoY P T N Cc ops tb C ds K (n + 1) L st :=
 zp4 st i v o rfl hn hs h1 h2 h3 h4 h
theorem zsw {a : TT} {T : Tm} {v : Value} {w : World} (h : a.tm = T) (hv : isT T v w) : isT a.tm v w := by
 rw [h]
 exact hv
theorem zs8 (t : TT) : (ttA t).lt 0 := fun (x : SA) hx => by
 obtain ⟨v, hv, rfl⟩ := List.mem_map.1 hx
 obtain ⟨k, n, s, la, lc, ls, aa, ac, us⟩ := t
 simp only [TT.cells, List.mem_cons, List.not_mem_nil, or_false] at hv
 rcases hv with rfl | rfl | rfl | rfl | rfl <;> rfl
theorem zub (A : Option Addr) : PCall Tryd.prog 71 [(cN sA).val, .slice A 1 1] (aG A 1 [cN sB] (cN sA)) (fun _ => True) (isT tY) :=
 zw6 (zwj A) ⟨_, Tryd.func71, by kernel_rfl, rfl⟩ (fun _ => rfl) (fun x hx => by
  simp only [List.mem_cons, List.not_mem_nil, or_false] at hx
  rcases hx with rfl | rfl
  ·exact zs8 _
  ·trivial)
theorem ztw (A : Option Addr) : PCall Tryd.prog 71 [(cN sC).val, .slice A 1 1] (aG A 1 [cN sB] (cN sC)) (fun _ => True) (isT tR) :=
 zw6 (zwo A) ⟨_, Tryd.func71, by kernel_rfl, rfl⟩ (fun _ => rfl) (fun x hx => by
  simp only [List.mem_cons, List.not_mem_nil, or_false] at hx
  rcases hx with rfl | rfl
  ·exact zs8 _
  ·trivial)
theorem zr6 (A : Option Addr) : PCall Tryd.prog 75 [.int .i64 7, (vN 0).val, .slice A 2 2] (aG A 2 [cN sA, vN 0] (vN 0)) (fun _ => True) (isT tO) :=
 zw6 (za1 A) ⟨_, Tryd.func75, by kernel_rfl, rfl⟩ (fun _ => rfl) (fun x hx => by
  simp only [List.mem_cons, List.not_mem_nil, or_false] at hx
  rcases hx with rfl | rfl | rfl
  ·trivial
  ·exact zs8 _
  ·trivial)
set_option maxHeartbeats 64000000 in
theorem zsl : PCall Tryd.prog 35 [] ML (fun r => r = .bool true) (fun _ _ => True) := by
 refine za4 zac 175 [.tmp 0] Tryd.func35 rfl rfl (by kernel_rfl) rfl _ (leB rfl) ML.up (fun _ => Up.true) ?_
 refine zah zac [1] _ _ _ ?_
 refine zal.ent (st' := { s := [], m := [], k := 0, f := [amG []] }) (zab [] rfl rfl rfl rfl (leB rfl) trivial trivial ⟨⟨amG.up _, fun w h => ⟨h.1, fun y hy => by cases hy⟩⟩, trivial⟩) ?_
 refine zah zac [2] _ _ _ ?_
 refine zaa [] (zb2 1) rfl trivial rfl rfl (fun _ _ => trivial) (fun _ _ => ⟨rfl, rfl⟩) (fun _ _ => ?_)
 refine zaa [] (zb2 0) rfl trivial rfl rfl (fun _ _ => trivial) (fun _ _ => ⟨rfl, rfl⟩) (fun _ _ => ?_)
 refine zad 0 (vs := (vN 0).cells) rfl rfl (fun g => ?_)
 refine zaa [] (zw5 (some ⟨g, 0, none⟩)) rfl trivial rfl rfl (fun w h => ⟨zfc h.1 (vN0 w), vN1 w⟩) (fun x _ => ?_) (fun x hx => ?_)
 ·obtain ⟨xvk, xvn, xvs, xvla, xvlc, xvls, xvaa, xvac, xvus⟩ := x
  exact ⟨rfl, rfl⟩
 have ha : x.tm = tX := hx
 obtain ⟨xak, xan, xas, xala, xalc, xals, xaaa, xaac, xaus⟩ := x
 let Ta : TT := (TT.mk xak xan xas xala xalc xals xaaa xaac xaus)
 refine zal.ent (st' := { s := [(1, .one (.p 0 0))], m := [(0, .cells 41 (Ta.cells.map SA.v))], k := 1, f := [amG [Ta]] }) (zab [(0, .blk 1)] rfl rfl rfl rfl (leB rfl) ⟨⟨_, rfl, rfl⟩, trivial⟩ ⟨⟨_, rfl, rfl⟩, trivial⟩ ⟨⟨amG.up _, fun w h => h.2.2.2.2.1.cons h.1⟩, trivial⟩) ?_
 refine zah zac [3] _ _ _ ?_
 refine zaa [] (zlj sA) rfl trivial rfl rfl (fun _ _ => trivial) (fun _ _ => ⟨rfl, rfl⟩) (fun _ _ => ?_)
 refine zal.ent (st' := { s := [(1, .one (.p 0 0)), (2, .one (.p 1 0))], m := [(0, .cells 41 (Ta.cells.map SA.v)), (1, .cells 41 ((cN sA).cells.map SA.v))], k := 2, f := [amG [Ta]] }) (zab [(0, .blk 0), (1, .blk 1)] rfl rfl rfl rfl (leB rfl) ⟨⟨_, rfl, rfl⟩, ⟨_, rfl, rfl⟩, trivial⟩ ⟨⟨_, rfl, rfl⟩, ⟨_, rfl, rfl⟩, trivial⟩ ⟨⟨amG.up _, fun w h => h.2.1⟩, trivial⟩) ?_
 refine zah zac [4] _ _ _ ?_
 refine zaa [] (zlj sB) rfl trivial rfl rfl (fun _ _ => trivial) (fun _ _ => ⟨rfl, rfl⟩) (fun _ _ => ?_)
 refine zal.ent (st' := { s := [(1, .one (.p 0 0)), (2, .one (.p 1 0)), (3, .one (.p 2 0))], m := [(0, .cells 41 (Ta.cells.map SA.v)), (1, .cells 41 ((cN sA).cells.map SA.v)), (2, .cells 41 ((cN sB).cells.map SA.v))], k := 3, f := [amG [Ta]] }) (zab [(0, .blk 0), (1, .blk 1), (2, .blk 2)] rfl rfl rfl rfl (leB rfl) ⟨⟨_, rfl, rfl⟩, ⟨_, rfl, rfl⟩, ⟨_, rfl, rfl⟩, trivial⟩ ⟨⟨_, rfl, rfl⟩, ⟨_, rfl, rfl⟩, ⟨_, rfl, rfl⟩, trivial⟩ ⟨⟨amG.up _, fun w h => h.2.1⟩, trivial⟩) ?_
 refine zah zac [5] _ _ _ ?_
 refine zad 3 (vs := (cN sA).cells ++ (cN sB).cells) rfl rfl (fun g => ?_)
 refine zaa [] (zxy Ta ha (some ⟨g, 0, none⟩)) rfl trivial rfl rfl (fun w h => ⟨⟨h.2.1.1, zbn h.1 (cNa w) (cNa w)⟩, h.2.1.get 0 rfl⟩) (fun x _ => ?_) (fun x hx => ?_)
 ·obtain ⟨xvk, xvn, xvs, xvla, xvlc, xvls, xvaa, xvac, xvus⟩ := x
  exact ⟨rfl, rfl⟩
 have hb : x.tm = tY := hx
 obtain ⟨xbk, xbn, xbs, xbla, xblc, xbls, xbaa, xbac, xbus⟩ := x
 let Tb : TT := (TT.mk xbk xbn xbs xbla xblc xbls xbaa xbac xbus)
 refine zal.ent (st' := { s := [(1, .one (.p 0 0)), (2, .one (.p 1 0)), (3, .one (.p 2 0)), (4, .one (.p 3 0)), (5, .one (.v (.bool true)))], m := [(0, .cells 41 (Ta.cells.map SA.v)), (1, .cells 41 ((cN sA).cells.map SA.v)), (2, .cells 41 ((cN sB).cells.map SA.v)), (3, .cells 41 (Tb.cells.map SA.v))], k := 4, f := [amG [Tb, Ta]] }) (zab [(0, .blk 0), (1, .blk 1), (2, .blk 2), (3, .blk 4)] rfl rfl rfl rfl (leB rfl) ⟨⟨_, rfl, rfl⟩, ⟨_, rfl, rfl⟩, ⟨_, rfl, rfl⟩, ⟨_, rfl, rfl⟩, ⟨_, rfl, rfl⟩, trivial⟩ ⟨⟨_, rfl, rfl⟩, ⟨_, rfl, rfl⟩, ⟨_, rfl, rfl⟩, ⟨_, rfl, rfl⟩, trivial⟩ ⟨⟨amG.up _, fun w h => h.2.2.1.cons h.1⟩, trivial⟩) ?_
 refine zah zac [6] _ _ _ ?_
 refine zad 4 (vs := [.string sA, .string sB]) rfl rfl (fun g => ?_)
 refine zaa [] (zxc Tb hb (some ⟨g, 0, none⟩)) rfl trivial rfl rfl (fun w h => ⟨⟨h.2.1.1, ⟨h.1, fun h => (by cases h), Nat.le_refl _, by decide⟩⟩, h.2.1.get 0 rfl⟩) (fun x _ => ?_) (fun x hx => ?_)
 ·obtain ⟨xvk, xvn, xvs, xvla, xvlc, xvls, xvaa, xvac, xvus⟩ := x
  exact ⟨rfl, rfl⟩
 have hc : x.tm = tX := hx
 obtain ⟨xck, xcn, xcs, xcla, xclc, xcls, xcaa, xcac, xcus⟩ := x
 let Tc : TT := (TT.mk xck xcn xcs xcla xclc xcls xcaa xcac xcus)
 refine zal.ent (st' := { s := [(1, .one (.p 0 0)), (2, .one (.p 1 0)), (3, .one (.p 2 0)), (4, .one (.p 3 0)), (6, .one (.p 4 0)), (5, .one (.v (.bool true))), (7, .one (.v (.bool true)))], m := [(0, .cells 41 (Ta.cells.map SA.v)), (1, .cells 41 ((cN sA).cells.map SA.v)), (2, .cells 41 ((cN sB).cells.map SA.v)), (3, .cells 41 (Tb.cells.map SA.v)), (4, .cells 41 (Tc.cells.map SA.v))], k := 5, f := [amG [Tc, Tb, Ta]] }) (zab [(0, .blk 0), (1, .blk 1), (2, .blk 2), (3, .blk 3), (4, .blk 5)] rfl rfl rfl rfl (leB rfl) ⟨⟨_, rfl, rfl⟩, ⟨_, rfl, rfl⟩, ⟨_, rfl, rfl⟩, ⟨_, rfl, rfl⟩, ⟨_, rfl, rfl⟩, ⟨_, rfl, rfl⟩, ⟨_, rfl, rfl⟩, trivial⟩ ⟨⟨_, rfl, rfl⟩, ⟨_, rfl, rfl⟩, ⟨_, rfl, rfl⟩, ⟨_, rfl, rfl⟩, ⟨_, rfl, rfl⟩, trivial⟩ ⟨⟨amG.up _, fun w h => h.2.2.1.cons h.1⟩, trivial⟩) ?_
 refine zal.cutX (X := TT) (fun x => x.tm = tF) (fun x => { s := [(1, .one (.p 0 0)), (2, .one (.p 1 0)), (3, .one (.p 2 0)), (4, .one (.p 3 0)), (6, .one (.p 4 0)), (8, .one (.p 5 0)), (5, .one (.v (.bool true))), (7, .one (.v (.bool true)))], m := [(0, .cells 41 (Ta.cells.map SA.v)), (1, .cells 41 ((cN sA).cells.map SA.v)), (2, .cells 41 ((cN sB).cells.map SA.v)), (3, .cells 41 (Tb.cells.map SA.v)), (4, .cells 41 (Tc.cells.map SA.v)), (5, .cells 41 (x.cells.map SA.v))], k := 6, f := [amG [x, Tc, Tb, Ta]] }) (zal.draw zac ?_) (fun x hx => ?_)
 ·skip
  let aS : List (Nat × SV) := [(1, .one (.p 0 0)), (2, .one (.p 1 0)), (3, .one (.p 2 0)), (4, .one (.p 3 0)), (6, .one (.p 4 0)), (5, .one (.v (.bool true))), (7, .one (.v (.bool true)))]
  let aM : List (Nat × LB) := [(0, .cells 41 (Ta.cells.map SA.v)), (1, .cells 41 ((cN sA).cells.map SA.v)), (2, .cells 41 ((cN sB).cells.map SA.v)), (3, .cells 41 (Tb.cells.map SA.v)), (4, .cells 41 (Tc.cells.map SA.v))]
  let aF : List (World -> Prop) := [amG [Tc, Tb, Ta]]
  refine ⟨[0, 0, 2, 7, 0, 31], [0, 2, 3, 4, 5], [(1, { dst := some 43, v := ttA (cN sA), p := none, f := none })], by kernel_rfl, rfl, by kernel_rfl, by kernel_rfl, rfl, rfl, rfl, rfl, ?_⟩
  refine zaf ({ s := aS, m := aM, k := 5, f := aF }) [0, 2, 4] rfl (by kernel_rfl) (by kernel_rfl) ⟨⟨rfl, rfl⟩, trivial⟩ ⟨?_, ?_, ?_, trivial⟩
  ·skip
   refine cstX rfl rfl rfl ?_
   refine zaa [] (zb2 1) rfl trivial rfl rfl (fun _ _ => trivial) (fun _ _ => ⟨rfl, rfl⟩) (fun _ _ => ?_)
   let x0 : Nat × SV := (42, ttA (vN 1))
   let f0a : World -> Prop := fun _ => True
   refine zaf ({ s := x0 :: aS, m := aM, k := 5, f := f0a :: aF }) [2, 4] rfl (by kernel_rfl) (by kernel_rfl) ⟨⟨rfl, rfl⟩, trivial⟩ ⟨?_, ?_, trivial⟩
   ·skip
    refine cstX rfl rfl rfl ?_
    let x2 : Nat × SV := (44, .one (.sl 5 0 1 1))
    let m2a : Nat × LB := (5, .cells 41 ((cN sA).cells.map SA.v))
    refine zaf ({ s := x2 :: x0 :: aS, m := m2a :: aM, k := 6, f := f0a :: aF }) [3, 4] rfl (by kernel_rfl) (by kernel_rfl) ⟨⟨rfl, trivial⟩, trivial⟩ ⟨?_, ?_, trivial⟩
    ·skip
     refine cstX rfl rfl rfl ?_
     refine zad 5 (vs := (cN sA).cells) rfl rfl (fun g => ?_)
     refine zaa [] (zdu (some ⟨g, 0, none⟩)) rfl trivial rfl rfl (fun w h => ⟨zfc h.1 (cNa w), vN1 w⟩) (fun x _ => ?_) (fun x hx => ?_)
     ·obtain ⟨xvk, xvn, xvs, xvla, xvlc, xvls, xvaa, xvac, xvus⟩ := x
      exact ⟨rfl, rfl⟩
     have hd : x.tm = tF := hx
     obtain ⟨xdk, xdn, xds, xdla, xdlc, xdls, xdaa, xdac, xdus⟩ := x
     let Td : TT := (TT.mk xdk xdn xds xdla xdlc xdls xdaa xdac xdus)
     let x3 : Nat × SV := (45, ttA Td)
     let m3a : Nat × LB := (5, .dead)
     let f3a : World -> Prop := fun w => TTIn w Td
     let f3b : World -> Prop := fun w => SlAt w (some ⟨g, 0, none⟩) (cN sA).cells
     refine zaf ({ s := x3 :: x2 :: x0 :: aS, m := m3a :: m2a :: aM, k := 6, f := f3a :: f3b :: f0a :: aF }) [4] rfl (by kernel_rfl) (by kernel_rfl) ⟨⟨rfl, trivial⟩, trivial⟩ ⟨?_, trivial⟩
     refine cstX rfl rfl rfl ?_
     let x4 : Nat × SV := (8, .one (.p 6 0))
     let m4a : Nat × LB := (6, .cells 41 zan)
     refine zaf ({ s := x4 :: x3 :: x2 :: x0 :: aS, m := m4a :: m3a :: m2a :: aM, k := 7, f := f3a :: f3b :: f0a :: aF }) [5] rfl (by kernel_rfl) (by kernel_rfl) ⟨⟨rfl, trivial⟩, trivial⟩ ⟨?_, trivial⟩
     refine cstX rfl rfl rfl ?_
     let m5a : Nat × LB := (6, .cells 41 (Td.cells.map SA.v))
     refine zap _ rfl (by kernel_rfl) ⟨⟨rfl, trivial⟩, trivial⟩ ?_
     exact ⟨Td, hd, (zab [(0, .blk 0), (1, .blk 1), (2, .blk 2), (3, .blk 3), (4, .blk 4), (5, .blk 6)] rfl rfl rfl rfl (leB rfl) ⟨⟨_, rfl, rfl⟩, ⟨_, rfl, rfl⟩, ⟨_, rfl, rfl⟩, ⟨_, rfl, rfl⟩, ⟨_, rfl, rfl⟩, ⟨_, rfl, rfl⟩, ⟨_, rfl, rfl⟩, ⟨_, rfl, rfl⟩, trivial⟩ ⟨⟨_, rfl, rfl⟩, ⟨_, rfl, rfl⟩, ⟨_, rfl, rfl⟩, ⟨_, rfl, rfl⟩, ⟨_, rfl, rfl⟩, ⟨_, rfl, rfl⟩, trivial⟩ ⟨⟨amG.up _, fun w h => (h.2.2.2.1).cons h.1⟩, trivial⟩)⟩
    ·skip
     refine cstX rfl rfl rfl ?_
     let x4 : Nat × SV := (8, .one (.p 6 0))
     let m4a : Nat × LB := (6, .cells 41 zan)
     refine zaf ({ s := x4 :: x2 :: x0 :: aS, m := m4a :: m2a :: aM, k := 7, f := f0a :: aF }) [3] rfl (by kernel_rfl) (by kernel_rfl) ⟨⟨rfl, trivial⟩, trivial⟩ ⟨?_, trivial⟩
     refine cstX rfl rfl rfl ?_
     refine zad 5 (vs := (cN sA).cells) rfl rfl (fun g => ?_)
     refine zaa [] (zdu (some ⟨g, 0, none⟩)) rfl trivial rfl rfl (fun w h => ⟨zfc h.1 (cNa w), vN1 w⟩) (fun x _ => ?_) (fun x hx => ?_)
     ·obtain ⟨xvk, xvn, xvs, xvla, xvlc, xvls, xvaa, xvac, xvus⟩ := x
      exact ⟨rfl, rfl⟩
     have hd : x.tm = tF := hx
     obtain ⟨xdk, xdn, xds, xdla, xdlc, xdls, xdaa, xdac, xdus⟩ := x
     let Td : TT := (TT.mk xdk xdn xds xdla xdlc xdls xdaa xdac xdus)
     let x3 : Nat × SV := (45, ttA Td)
     let m3a : Nat × LB := (5, .dead)
     let f3a : World -> Prop := fun w => TTIn w Td
     let f3b : World -> Prop := fun w => SlAt w (some ⟨g, 0, none⟩) (cN sA).cells
     refine zaf ({ s := x3 :: x4 :: x2 :: x0 :: aS, m := m3a :: m4a :: m2a :: aM, k := 7, f := f3a :: f3b :: f0a :: aF }) [5] rfl (by kernel_rfl) (by kernel_rfl) ⟨⟨rfl, trivial⟩, trivial⟩ ⟨?_, trivial⟩
     refine cstX rfl rfl rfl ?_
     let m5a : Nat × LB := (6, .cells 41 (Td.cells.map SA.v))
     refine zap _ rfl (by kernel_rfl) ⟨⟨rfl, trivial⟩, trivial⟩ ?_
     exact ⟨Td, hd, (zab [(0, .blk 0), (1, .blk 1), (2, .blk 2), (3, .blk 3), (4, .blk 4), (5, .blk 6)] rfl rfl rfl rfl (leB rfl) ⟨⟨_, rfl, rfl⟩, ⟨_, rfl, rfl⟩, ⟨_, rfl, rfl⟩, ⟨_, rfl, rfl⟩, ⟨_, rfl, rfl⟩, ⟨_, rfl, rfl⟩, ⟨_, rfl, rfl⟩, ⟨_, rfl, rfl⟩, trivial⟩ ⟨⟨_, rfl, rfl⟩, ⟨_, rfl, rfl⟩, ⟨_, rfl, rfl⟩, ⟨_, rfl, rfl⟩, ⟨_, rfl, rfl⟩, ⟨_, rfl, rfl⟩, trivial⟩ ⟨⟨amG.up _, fun w h => (h.2.2.2.1).cons h.1⟩, trivial⟩)⟩
   ·skip
    refine cstX rfl rfl rfl ?_
    let x4 : Nat × SV := (8, .one (.p 5 0))
    let m4a : Nat × LB := (5, .cells 41 zan)
    refine zaf ({ s := x4 :: x0 :: aS, m := m4a :: aM, k := 6, f := f0a :: aF }) [2] rfl (by kernel_rfl) (by kernel_rfl) ⟨⟨rfl, rfl⟩, trivial⟩ ⟨?_, trivial⟩
    refine cstX rfl rfl rfl ?_
    let x2 : Nat × SV := (44, .one (.sl 6 0 1 1))
    let m2a : Nat × LB := (6, .cells 41 ((cN sA).cells.map SA.v))
    refine zaf ({ s := x2 :: x4 :: x0 :: aS, m := m2a :: m4a :: aM, k := 7, f := f0a :: aF }) [3] rfl (by kernel_rfl) (by kernel_rfl) ⟨⟨rfl, trivial⟩, trivial⟩ ⟨?_, trivial⟩
    refine cstX rfl rfl rfl ?_
    refine zad 6 (vs := (cN sA).cells) rfl rfl (fun g => ?_)
    refine zaa [] (zdu (some ⟨g, 0, none⟩)) rfl trivial rfl rfl (fun w h => ⟨zfc h.1 (cNa w), vN1 w⟩) (fun x _ => ?_) (fun x hx => ?_)
    ·obtain ⟨xvk, xvn, xvs, xvla, xvlc, xvls, xvaa, xvac, xvus⟩ := x
     exact ⟨rfl, rfl⟩
    have hd : x.tm = tF := hx
    obtain ⟨xdk, xdn, xds, xdla, xdlc, xdls, xdaa, xdac, xdus⟩ := x
    let Td : TT := (TT.mk xdk xdn xds xdla xdlc xdls xdaa xdac xdus)
    let x3 : Nat × SV := (45, ttA Td)
    let m3a : Nat × LB := (6, .dead)
    let f3a : World -> Prop := fun w => TTIn w Td
    let f3b : World -> Prop := fun w => SlAt w (some ⟨g, 0, none⟩) (cN sA).cells
    refine zaf ({ s := x3 :: x2 :: x4 :: x0 :: aS, m := m3a :: m2a :: m4a :: aM, k := 7, f := f3a :: f3b :: f0a :: aF }) [5] rfl (by kernel_rfl) (by kernel_rfl) ⟨⟨rfl, trivial⟩, trivial⟩ ⟨?_, trivial⟩
    refine cstX rfl rfl rfl ?_
    let m5a : Nat × LB := (5, .cells 41 (Td.cells.map SA.v))
    refine zap _ rfl (by kernel_rfl) ⟨⟨rfl, trivial⟩, trivial⟩ ?_
    exact ⟨Td, hd, (zab [(0, .blk 0), (1, .blk 1), (2, .blk 2), (3, .blk 3), (4, .blk 4), (5, .blk 5)] rfl rfl rfl rfl (leB rfl) ⟨⟨_, rfl, rfl⟩, ⟨_, rfl, rfl⟩, ⟨_, rfl, rfl⟩, ⟨_, rfl, rfl⟩, ⟨_, rfl, rfl⟩, ⟨_, rfl, rfl⟩, ⟨_, rfl, rfl⟩, ⟨_, rfl, rfl⟩, trivial⟩ ⟨⟨_, rfl, rfl⟩, ⟨_, rfl, rfl⟩, ⟨_, rfl, rfl⟩, ⟨_, rfl, rfl⟩, ⟨_, rfl, rfl⟩, ⟨_, rfl, rfl⟩, trivial⟩ ⟨⟨amG.up _, fun w h => (h.2.2.2.1).cons h.1⟩, trivial⟩)⟩
  ·skip
   refine cstX rfl rfl rfl ?_
   let x2 : Nat × SV := (44, .one (.sl 5 0 1 1))
   let m2a : Nat × LB := (5, .cells 41 ((cN sA).cells.map SA.v))
   refine zaf ({ s := x2 :: aS, m := m2a :: aM, k := 6, f := aF }) [0, 4] rfl (by kernel_rfl) (by kernel_rfl) ⟨⟨rfl, trivial⟩, trivial⟩ ⟨?_, ?_, trivial⟩
   ·skip
    refine cstX rfl rfl rfl ?_
    refine zaa [] (zb2 1) rfl trivial rfl rfl (fun _ _ => trivial) (fun _ _ => ⟨rfl, rfl⟩) (fun _ _ => ?_)
    let x0 : Nat × SV := (42, ttA (vN 1))
    let f0a : World -> Prop := fun _ => True
    refine zaf ({ s := x0 :: x2 :: aS, m := m2a :: aM, k := 6, f := f0a :: aF }) [3, 4] rfl (by kernel_rfl) (by kernel_rfl) ⟨⟨rfl, trivial⟩, trivial⟩ ⟨?_, ?_, trivial⟩
    ·skip
     refine cstX rfl rfl rfl ?_
     refine zad 5 (vs := (cN sA).cells) rfl rfl (fun g => ?_)
     refine zaa [] (zdu (some ⟨g, 0, none⟩)) rfl trivial rfl rfl (fun w h => ⟨zfc h.1 (cNa w), vN1 w⟩) (fun x _ => ?_) (fun x hx => ?_)
     ·obtain ⟨xvk, xvn, xvs, xvla, xvlc, xvls, xvaa, xvac, xvus⟩ := x
      exact ⟨rfl, rfl⟩
     have hd : x.tm = tF := hx
     obtain ⟨xdk, xdn, xds, xdla, xdlc, xdls, xdaa, xdac, xdus⟩ := x
     let Td : TT := (TT.mk xdk xdn xds xdla xdlc xdls xdaa xdac xdus)
     let x3 : Nat × SV := (45, ttA Td)
     let m3a : Nat × LB := (5, .dead)
     let f3a : World -> Prop := fun w => TTIn w Td
     let f3b : World -> Prop := fun w => SlAt w (some ⟨g, 0, none⟩) (cN sA).cells
     refine zaf ({ s := x3 :: x0 :: x2 :: aS, m := m3a :: m2a :: aM, k := 6, f := f3a :: f3b :: f0a :: aF }) [4] rfl (by kernel_rfl) (by kernel_rfl) ⟨⟨rfl, trivial⟩, trivial⟩ ⟨?_, trivial⟩
     refine cstX rfl rfl rfl ?_
     let x4 : Nat × SV := (8, .one (.p 6 0))
     let m4a : Nat × LB := (6, .cells 41 zan)
     refine zaf ({ s := x4 :: x3 :: x0 :: x2 :: aS, m := m4a :: m3a :: m2a :: aM, k := 7, f := f3a :: f3b :: f0a :: aF }) [5] rfl (by kernel_rfl) (by kernel_rfl) ⟨⟨rfl, trivial⟩, trivial⟩ ⟨?_, trivial⟩
     refine cstX rfl rfl rfl ?_
     let m5a : Nat × LB := (6, .cells 41 (Td.cells.map SA.v))
     refine zap _ rfl (by kernel_rfl) ⟨⟨rfl, trivial⟩, trivial⟩ ?_
     exact ⟨Td, hd, (zab [(0, .blk 0), (1, .blk 1), (2, .blk 2), (3, .blk 3), (4, .blk 4), (5, .blk 6)] rfl rfl rfl rfl (leB rfl) ⟨⟨_, rfl, rfl⟩, ⟨_, rfl, rfl⟩, ⟨_, rfl, rfl⟩, ⟨_, rfl, rfl⟩, ⟨_, rfl, rfl⟩, ⟨_, rfl, rfl⟩, ⟨_, rfl, rfl⟩, ⟨_, rfl, rfl⟩, trivial⟩ ⟨⟨_, rfl, rfl⟩, ⟨_, rfl, rfl⟩, ⟨_, rfl, rfl⟩, ⟨_, rfl, rfl⟩, ⟨_, rfl, rfl⟩, ⟨_, rfl, rfl⟩, trivial⟩ ⟨⟨amG.up _, fun w h => (h.2.2.2.1).cons h.1⟩, trivial⟩)⟩
    ·skip
     refine cstX rfl rfl rfl ?_
     let x4 : Nat × SV := (8, .one (.p 6 0))
     let m4a : Nat × LB := (6, .cells 41 zan)
     refine zaf ({ s := x4 :: x0 :: x2 :: aS, m := m4a :: m2a :: aM, k := 7, f := f0a :: aF }) [3] rfl (by kernel_rfl) (by kernel_rfl) ⟨⟨rfl, trivial⟩, trivial⟩ ⟨?_, trivial⟩
     refine cstX rfl rfl rfl ?_
     refine zad 5 (vs := (cN sA).cells) rfl rfl (fun g => ?_)
     refine zaa [] (zdu (some ⟨g, 0, none⟩)) rfl trivial rfl rfl (fun w h => ⟨zfc h.1 (cNa w), vN1 w⟩) (fun x _ => ?_) (fun x hx => ?_)
     ·obtain ⟨xvk, xvn, xvs, xvla, xvlc, xvls, xvaa, xvac, xvus⟩ := x
      exact ⟨rfl, rfl⟩
     have hd : x.tm = tF := hx
     obtain ⟨xdk, xdn, xds, xdla, xdlc, xdls, xdaa, xdac, xdus⟩ := x
     let Td : TT := (TT.mk xdk xdn xds xdla xdlc xdls xdaa xdac xdus)
     let x3 : Nat × SV := (45, ttA Td)
     let m3a : Nat × LB := (5, .dead)
     let f3a : World -> Prop := fun w => TTIn w Td
     let f3b : World -> Prop := fun w => SlAt w (some ⟨g, 0, none⟩) (cN sA).cells
     refine zaf ({ s := x3 :: x4 :: x0 :: x2 :: aS, m := m3a :: m4a :: m2a :: aM, k := 7, f := f3a :: f3b :: f0a :: aF }) [5] rfl (by kernel_rfl) (by kernel_rfl) ⟨⟨rfl, trivial⟩, trivial⟩ ⟨?_, trivial⟩
     refine cstX rfl rfl rfl ?_
     let m5a : Nat × LB := (6, .cells 41 (Td.cells.map SA.v))
     refine zap _ rfl (by kernel_rfl) ⟨⟨rfl, trivial⟩, trivial⟩ ?_
     exact ⟨Td, hd, (zab [(0, .blk 0), (1, .blk 1), (2, .blk 2), (3, .blk 3), (4, .blk 4), (5, .blk 6)] rfl rfl rfl rfl (leB rfl) ⟨⟨_, rfl, rfl⟩, ⟨_, rfl, rfl⟩, ⟨_, rfl, rfl⟩, ⟨_, rfl, rfl⟩, ⟨_, rfl, rfl⟩, ⟨_, rfl, rfl⟩, ⟨_, rfl, rfl⟩, ⟨_, rfl, rfl⟩, trivial⟩ ⟨⟨_, rfl, rfl⟩, ⟨_, rfl, rfl⟩, ⟨_, rfl, rfl⟩, ⟨_, rfl, rfl⟩, ⟨_, rfl, rfl⟩, ⟨_, rfl, rfl⟩, trivial⟩ ⟨⟨amG.up _, fun w h => (h.2.2.2.1).cons h.1⟩, trivial⟩)⟩
   ·skip
    refine cstX rfl rfl rfl ?_
    let x4 : Nat × SV := (8, .one (.p 6 0))
    let m4a : Nat × LB := (6, .cells 41 zan)
    refine zaf ({ s := x4 :: x2 :: aS, m := m4a :: m2a :: aM, k := 7, f := aF }) [0] rfl (by kernel_rfl) (by kernel_rfl) ⟨⟨rfl, trivial⟩, trivial⟩ ⟨?_, trivial⟩
    refine cstX rfl rfl rfl ?_
    refine zaa [] (zb2 1) rfl trivial rfl rfl (fun _ _ => trivial) (fun _ _ => ⟨rfl, rfl⟩) (fun _ _ => ?_)
    let x0 : Nat × SV := (42, ttA (vN 1))
    let f0a : World -> Prop := fun _ => True
    refine zaf ({ s := x0 :: x4 :: x2 :: aS, m := m4a :: m2a :: aM, k := 7, f := f0a :: aF }) [3] rfl (by kernel_rfl) (by kernel_rfl) ⟨⟨rfl, trivial⟩, trivial⟩ ⟨?_, trivial⟩
    refine cstX rfl rfl rfl ?_
    refine zad 5 (vs := (cN sA).cells) rfl rfl (fun g => ?_)
    refine zaa [] (zdu (some ⟨g, 0, none⟩)) rfl trivial rfl rfl (fun w h => ⟨zfc h.1 (cNa w), vN1 w⟩) (fun x _ => ?_) (fun x hx => ?_)
    ·obtain ⟨xvk, xvn, xvs, xvla, xvlc, xvls, xvaa, xvac, xvus⟩ := x
     exact ⟨rfl, rfl⟩
    have hd : x.tm = tF := hx
    obtain ⟨xdk, xdn, xds, xdla, xdlc, xdls, xdaa, xdac, xdus⟩ := x
    let Td : TT := (TT.mk xdk xdn xds xdla xdlc xdls xdaa xdac xdus)
    let x3 : Nat × SV := (45, ttA Td)
    let m3a : Nat × LB := (5, .dead)
    let f3a : World -> Prop := fun w => TTIn w Td
    let f3b : World -> Prop := fun w => SlAt w (some ⟨g, 0, none⟩) (cN sA).cells
    refine zaf ({ s := x3 :: x0 :: x4 :: x2 :: aS, m := m3a :: m4a :: m2a :: aM, k := 7, f := f3a :: f3b :: f0a :: aF }) [5] rfl (by kernel_rfl) (by kernel_rfl) ⟨⟨rfl, trivial⟩, trivial⟩ ⟨?_, trivial⟩
    refine cstX rfl rfl rfl ?_
    let m5a : Nat × LB := (6, .cells 41 (Td.cells.map SA.v))
    refine zap _ rfl (by kernel_rfl) ⟨⟨rfl, trivial⟩, trivial⟩ ?_
    exact ⟨Td, hd, (zab [(0, .blk 0), (1, .blk 1), (2, .blk 2), (3, .blk 3), (4, .blk 4), (5, .blk 6)] rfl rfl rfl rfl (leB rfl) ⟨⟨_, rfl, rfl⟩, ⟨_, rfl, rfl⟩, ⟨_, rfl, rfl⟩, ⟨_, rfl, rfl⟩, ⟨_, rfl, rfl⟩, ⟨_, rfl, rfl⟩, ⟨_, rfl, rfl⟩, ⟨_, rfl, rfl⟩, trivial⟩ ⟨⟨_, rfl, rfl⟩, ⟨_, rfl, rfl⟩, ⟨_, rfl, rfl⟩, ⟨_, rfl, rfl⟩, ⟨_, rfl, rfl⟩, ⟨_, rfl, rfl⟩, trivial⟩ ⟨⟨amG.up _, fun w h => (h.2.2.2.1).cons h.1⟩, trivial⟩)⟩
  ·skip
   refine cstX rfl rfl rfl ?_
   let x4 : Nat × SV := (8, .one (.p 5 0))
   let m4a : Nat × LB := (5, .cells 41 zan)
   refine zaf ({ s := x4 :: aS, m := m4a :: aM, k := 6, f := aF }) [0, 2] rfl (by kernel_rfl) (by kernel_rfl) ⟨⟨rfl, rfl⟩, trivial⟩ ⟨?_, ?_, trivial⟩
   ·skip
    refine cstX rfl rfl rfl ?_
    refine zaa [] (zb2 1) rfl trivial rfl rfl (fun _ _ => trivial) (fun _ _ => ⟨rfl, rfl⟩) (fun _ _ => ?_)
    let x0 : Nat × SV := (42, ttA (vN 1))
    let f0a : World -> Prop := fun _ => True
    refine zaf ({ s := x0 :: x4 :: aS, m := m4a :: aM, k := 6, f := f0a :: aF }) [2] rfl (by kernel_rfl) (by kernel_rfl) ⟨⟨rfl, rfl⟩, trivial⟩ ⟨?_, trivial⟩
    refine cstX rfl rfl rfl ?_
    let x2 : Nat × SV := (44, .one (.sl 6 0 1 1))
    let m2a : Nat × LB := (6, .cells 41 ((cN sA).cells.map SA.v))
    refine zaf ({ s := x2 :: x0 :: x4 :: aS, m := m2a :: m4a :: aM, k := 7, f := f0a :: aF }) [3] rfl (by kernel_rfl) (by kernel_rfl) ⟨⟨rfl, trivial⟩, trivial⟩ ⟨?_, trivial⟩
    refine cstX rfl rfl rfl ?_
    refine zad 6 (vs := (cN sA).cells) rfl rfl (fun g => ?_)
    refine zaa [] (zdu (some ⟨g, 0, none⟩)) rfl trivial rfl rfl (fun w h => ⟨zfc h.1 (cNa w), vN1 w⟩) (fun x _ => ?_) (fun x hx => ?_)
    ·obtain ⟨xvk, xvn, xvs, xvla, xvlc, xvls, xvaa, xvac, xvus⟩ := x
     exact ⟨rfl, rfl⟩
    have hd : x.tm = tF := hx
    obtain ⟨xdk, xdn, xds, xdla, xdlc, xdls, xdaa, xdac, xdus⟩ := x
    let Td : TT := (TT.mk xdk xdn xds xdla xdlc xdls xdaa xdac xdus)
    let x3 : Nat × SV := (45, ttA Td)
    let m3a : Nat × LB := (6, .dead)
    let f3a : World -> Prop := fun w => TTIn w Td
    let f3b : World -> Prop := fun w => SlAt w (some ⟨g, 0, none⟩) (cN sA).cells
    refine zaf ({ s := x3 :: x2 :: x0 :: x4 :: aS, m := m3a :: m2a :: m4a :: aM, k := 7, f := f3a :: f3b :: f0a :: aF }) [5] rfl (by kernel_rfl) (by kernel_rfl) ⟨⟨rfl, trivial⟩, trivial⟩ ⟨?_, trivial⟩
    refine cstX rfl rfl rfl ?_
    let m5a : Nat × LB := (5, .cells 41 (Td.cells.map SA.v))
    refine zap _ rfl (by kernel_rfl) ⟨⟨rfl, trivial⟩, trivial⟩ ?_
    exact ⟨Td, hd, (zab [(0, .blk 0), (1, .blk 1), (2, .blk 2), (3, .blk 3), (4, .blk 4), (5, .blk 5)] rfl rfl rfl rfl (leB rfl) ⟨⟨_, rfl, rfl⟩, ⟨_, rfl, rfl⟩, ⟨_, rfl, rfl⟩, ⟨_, rfl, rfl⟩, ⟨_, rfl, rfl⟩, ⟨_, rfl, rfl⟩, ⟨_, rfl, rfl⟩, ⟨_, rfl, rfl⟩, trivial⟩ ⟨⟨_, rfl, rfl⟩, ⟨_, rfl, rfl⟩, ⟨_, rfl, rfl⟩, ⟨_, rfl, rfl⟩, ⟨_, rfl, rfl⟩, ⟨_, rfl, rfl⟩, trivial⟩ ⟨⟨amG.up _, fun w h => (h.2.2.2.1).cons h.1⟩, trivial⟩)⟩
   ·skip
    refine cstX rfl rfl rfl ?_
    let x2 : Nat × SV := (44, .one (.sl 6 0 1 1))
    let m2a : Nat × LB := (6, .cells 41 ((cN sA).cells.map SA.v))
    refine zaf ({ s := x2 :: x4 :: aS, m := m2a :: m4a :: aM, k := 7, f := aF }) [0] rfl (by kernel_rfl) (by kernel_rfl) ⟨⟨rfl, trivial⟩, trivial⟩ ⟨?_, trivial⟩
    refine cstX rfl rfl rfl ?_
    refine zaa [] (zb2 1) rfl trivial rfl rfl (fun _ _ => trivial) (fun _ _ => ⟨rfl, rfl⟩) (fun _ _ => ?_)
    let x0 : Nat × SV := (42, ttA (vN 1))
    let f0a : World -> Prop := fun _ => True
    refine zaf ({ s := x0 :: x2 :: x4 :: aS, m := m2a :: m4a :: aM, k := 7, f := f0a :: aF }) [3] rfl (by kernel_rfl) (by kernel_rfl) ⟨⟨rfl, trivial⟩, trivial⟩ ⟨?_, trivial⟩
    refine cstX rfl rfl rfl ?_
    refine zad 6 (vs := (cN sA).cells) rfl rfl (fun g => ?_)
    refine zaa [] (zdu (some ⟨g, 0, none⟩)) rfl trivial rfl rfl (fun w h => ⟨zfc h.1 (cNa w), vN1 w⟩) (fun x _ => ?_) (fun x hx => ?_)
    ·obtain ⟨xvk, xvn, xvs, xvla, xvlc, xvls, xvaa, xvac, xvus⟩ := x
     exact ⟨rfl, rfl⟩
    have hd : x.tm = tF := hx
    obtain ⟨xdk, xdn, xds, xdla, xdlc, xdls, xdaa, xdac, xdus⟩ := x
    let Td : TT := (TT.mk xdk xdn xds xdla xdlc xdls xdaa xdac xdus)
    let x3 : Nat × SV := (45, ttA Td)
    let m3a : Nat × LB := (6, .dead)
    let f3a : World -> Prop := fun w => TTIn w Td
    let f3b : World -> Prop := fun w => SlAt w (some ⟨g, 0, none⟩) (cN sA).cells
    refine zaf ({ s := x3 :: x0 :: x2 :: x4 :: aS, m := m3a :: m2a :: m4a :: aM, k := 7, f := f3a :: f3b :: f0a :: aF }) [5] rfl (by kernel_rfl) (by kernel_rfl) ⟨⟨rfl, trivial⟩, trivial⟩ ⟨?_, trivial⟩
    refine cstX rfl rfl rfl ?_
    let m5a : Nat × LB := (5, .cells 41 (Td.cells.map SA.v))
    refine zap _ rfl (by kernel_rfl) ⟨⟨rfl, trivial⟩, trivial⟩ ?_
    exact ⟨Td, hd, (zab [(0, .blk 0), (1, .blk 1), (2, .blk 2), (3, .blk 3), (4, .blk 4), (5, .blk 5)] rfl rfl rfl rfl (leB rfl) ⟨⟨_, rfl, rfl⟩, ⟨_, rfl, rfl⟩, ⟨_, rfl, rfl⟩, ⟨_, rfl, rfl⟩, ⟨_, rfl, rfl⟩, ⟨_, rfl, rfl⟩, ⟨_, rfl, rfl⟩, ⟨_, rfl, rfl⟩, trivial⟩ ⟨⟨_, rfl, rfl⟩, ⟨_, rfl, rfl⟩, ⟨_, rfl, rfl⟩, ⟨_, rfl, rfl⟩, ⟨_, rfl, rfl⟩, ⟨_, rfl, rfl⟩, trivial⟩ ⟨⟨amG.up _, fun w h => (h.2.2.2.1).cons h.1⟩, trivial⟩)⟩
 have hd : x.tm = tF := hx
 obtain ⟨xdk, xdn, xds, xdla, xdlc, xdls, xdaa, xdac, xdus⟩ := x
 let Td : TT := (TT.mk xdk xdn xds xdla xdlc xdls xdaa xdac xdus)
 refine zah zac [8] _ _ _ ?_
 refine zaa [] (zue Td hd) rfl trivial rfl rfl (fun w h => ⟨h.1.1, h.1.get 0 rfl⟩) (fun x _ => ?_) (fun x hx => ?_)
 ·obtain ⟨xvk, xvn, xvs, xvla, xvlc, xvls, xvaa, xvac, xvus⟩ := x
  exact ⟨rfl, rfl⟩
 have he : x.tm = tG := hx
 obtain ⟨xek, xen, xes, xela, xelc, xels, xeaa, xeac, xeus⟩ := x
 obtain ⟨ea, eb, hes, hen⟩ := am_G (TT.mk xek xen xes xela xelc xels xeaa xeac xeus) he
 have hes : xeus = [ea, eb] := hes
 subst hes
 obtain ⟨xzk, xzn, xzs, xzla, xzlc, xzls, xzaa, xzac, xzus⟩ := eb
 have hzn : xzn = 3 := hen
 subst hzn
 refine zal.ent (st' := { s := [(1, .one (.p 0 0)), (2, .one (.p 1 0)), (3, .one (.p 2 0)), (4, .one (.p 3 0)), (6, .one (.p 4 0)), (9, .one (.p 5 0)), (5, .one (.v (.bool true))), (7, .one (.v (.bool true))), (10, .one (.v (.bool true)))], m := [(0, .cells 41 (Ta.cells.map SA.v)), (1, .cells 41 ((cN sA).cells.map SA.v)), (2, .cells 41 ((cN sB).cells.map SA.v)), (3, .cells 41 (Tb.cells.map SA.v)), (4, .cells 41 (Tc.cells.map SA.v)), (5, .cells 41 ((TT.mk xek xen xes xela xelc xels xeaa xeac [ea, (TT.mk xzk 3 xzs xzla xzlc xzls xzaa xzac xzus)]).cells.map SA.v))], k := 6, f := [amG [(TT.mk xek xen xes xela xelc xels xeaa xeac [ea, (TT.mk xzk 3 xzs xzla xzlc xzls xzaa xzac xzus)]), Td, Tc, Tb, Ta]] }) (zab [(0, .blk 0), (1, .blk 1), (2, .blk 2), (3, .blk 3), (4, .blk 4), (5, .blk 6)] rfl rfl rfl rfl (leB rfl) ⟨⟨_, rfl, rfl⟩, ⟨_, rfl, rfl⟩, ⟨_, rfl, rfl⟩, ⟨_, rfl, rfl⟩, ⟨_, rfl, rfl⟩, ⟨_, rfl, rfl⟩, ⟨_, rfl, rfl⟩, ⟨_, rfl, rfl⟩, ⟨_, rfl, rfl⟩, trivial⟩ ⟨⟨_, rfl, rfl⟩, ⟨_, rfl, rfl⟩, ⟨_, rfl, rfl⟩, ⟨_, rfl, rfl⟩, ⟨_, rfl, rfl⟩, ⟨_, rfl, rfl⟩, trivial⟩ ⟨⟨amG.up _, fun w h => h.2.1.cons h.1⟩, trivial⟩) ?_
 refine zal.told (p := ∃ b, xeaa = some b) (fun w h => ?_) ?_
 ·obtain ⟨⟨a, ha, _⟩, _⟩ := (zpc (h.1.get 0 rfl)).arg (j := 1) rfl
  exact ⟨a, ha⟩
 rintro ⟨eb0, rfl⟩
 let Te : TT := (TT.mk xek xen xes xela xelc xels (some eb0) xeac [ea, (TT.mk xzk 3 xzs xzla xzlc xzls xzaa xzac xzus)])
 refine zah zac [9] _ _ _ ?_
 refine zaa [] (zb2 1) rfl trivial rfl rfl (fun _ _ => trivial) (fun _ _ => ⟨rfl, rfl⟩) (fun _ _ => ?_)
 refine zaa [] zr9 rfl trivial rfl rfl (fun w h => ⟨h.2.1.1, vN1 w⟩) (fun _ _ => ⟨rfl, rfl⟩) (fun _ _ => ?_)
 refine zal.ent (st' := { s := [(1, .one (.p 0 0)), (2, .one (.p 1 0)), (3, .one (.p 2 0)), (4, .one (.p 3 0)), (6, .one (.p 4 0)), (9, .one (.p 5 0)), (5, .one (.v (.bool true))), (7, .one (.v (.bool true))), (10, .one (.v (.bool true))), (12, .one (.v (.bool false)))], m := [(0, .cells 41 (Ta.cells.map SA.v)), (1, .cells 41 ((cN sA).cells.map SA.v)), (2, .cells 41 ((cN sB).cells.map SA.v)), (3, .cells 41 (Tb.cells.map SA.v)), (4, .cells 41 (Tc.cells.map SA.v)), (5, .cells 41 (Te.cells.map SA.v))], k := 6, f := [amG [Te, Td, Tc, Tb, Ta]] }) (zab [(0, .blk 0), (1, .blk 1), (2, .blk 2), (3, .blk 3), (4, .blk 4), (5, .blk 5)] rfl rfl rfl rfl (leB rfl) ⟨⟨_, rfl, rfl⟩, ⟨_, rfl, rfl⟩, ⟨_, rfl, rfl⟩, ⟨_, rfl, rfl⟩, ⟨_, rfl, rfl⟩, ⟨_, rfl, rfl⟩, ⟨_, rfl, rfl⟩, ⟨_, rfl, rfl⟩, ⟨_, rfl, rfl⟩, ⟨_, rfl, rfl⟩, trivial⟩ ⟨⟨_, rfl, rfl⟩, ⟨_, rfl, rfl⟩, ⟨_, rfl, rfl⟩, ⟨_, rfl, rfl⟩, ⟨_, rfl, rfl⟩, ⟨_, rfl, rfl⟩, trivial⟩ ⟨⟨amG.up _, fun w h => h.2.2.1⟩, trivial⟩) ?_
 refine zal.cutX (X := (Option Addr × Nat) × (TT × TT) × TT) (fun q => q.2.1.1.tm = cT sA /\ q.2.1.2.tm = cT sP /\ q.2.2.tm = cT sQ) (fun q => { s := [(1, .one (.p 0 0)), (2, .one (.p 1 0)), (3, .one (.p 2 0)), (4, .one (.p 3 0)), (6, .one (.p 4 0)), (9, .one (.p 5 0)), (14, .one (.p 6 0)), (5, .one (.v (.bool true))), (7, .one (.v (.bool true))), (10, .one (.v (.bool true))), (12, .one (.v (.bool false))), (13, .one (.v (.slice q.1.1 2 q.1.2))), (15, .one (.v (.bool true)))], m := [(0, .cells 41 (Ta.cells.map SA.v)), (1, .cells 41 ((cN sA).cells.map SA.v)), (2, .cells 41 ((cN sB).cells.map SA.v)), (3, .cells 41 (Tb.cells.map SA.v)), (4, .cells 41 (Tc.cells.map SA.v)), (5, .cells 41 (Te.cells.map SA.v)), (6, .cells 41 (q.2.2.cells.map SA.v))], k := 7, f := [amG [Te, Td, Tc, Tb, Ta], zax q.1.1 [(sP, q.2.1.1), (sQ, q.2.1.2)] q.2.2] }) (zal.drawY zac ?_) (fun q hqq => ?_)
 ·skip
  let bS : List (Nat × SV) := [(1, .one (.p 0 0)), (2, .one (.p 1 0)), (3, .one (.p 2 0)), (4, .one (.p 3 0)), (6, .one (.p 4 0)), (9, .one (.p 5 0)), (5, .one (.v (.bool true))), (7, .one (.v (.bool true))), (10, .one (.v (.bool true))), (12, .one (.v (.bool false)))]
  let bM : List (Nat × LB) := [(0, .cells 41 (Ta.cells.map SA.v)), (1, .cells 41 ((cN sA).cells.map SA.v)), (2, .cells 41 ((cN sB).cells.map SA.v)), (3, .cells 41 (Tb.cells.map SA.v)), (4, .cells 41 (Tc.cells.map SA.v)), (5, .cells 41 (Te.cells.map SA.v))]
  let bF : List (World -> Prop) := [amG [Te, Td, Tc, Tb, Ta]]
  refine ⟨[0, 0, 1, 7, 15, 0, 63, 127, 255, 255, 255, 0, 2559, 7167, 16383], [0, 2, 3, 4, 5, 6, 7, 8, 9, 10, 11, 12, 13, 14], [(1, { dst := some 58, v := ttA (cN sA), p := none, f := none })], by kernel_rfl, rfl, by kernel_rfl, by kernel_rfl, rfl, rfl, rfl, rfl, ?_⟩
  refine zag ({ s := bS, m := bM, k := 6, f := bF }) [0, 5, 11] rfl (by kernel_rfl) (by kernel_rfl) ⟨⟨rfl, rfl⟩, trivial⟩ ⟨?_, ?_, ?_, trivial⟩
  ·skip
   refine cstY rfl rfl rfl ?_
   refine zaa [] (zb2 0) rfl trivial rfl rfl (fun _ _ => trivial) (fun _ _ => ⟨rfl, rfl⟩) (fun _ _ => ?_)
   let x0 : Nat × SV := (57, ttA (vN 0))
   let f0a : World -> Prop := fun _ => True
   refine zag ({ s := x0 :: bS, m := bM, k := 6, f := f0a :: bF }) [2, 5, 11] rfl (by kernel_rfl) (by kernel_rfl) ⟨⟨rfl, rfl⟩, trivial⟩ ⟨?_, ?_, ?_, trivial⟩
   ·skip
    refine cstY rfl rfl rfl ?_
    refine zaa [] (zb2 0) rfl trivial rfl rfl (fun _ _ => trivial) (fun _ _ => ⟨rfl, rfl⟩) (fun _ _ => ?_)
    let x2 : Nat × SV := (59, ttA (vN 0))
    let f2a : World -> Prop := fun _ => True
    refine zag ({ s := x2 :: x0 :: bS, m := bM, k := 6, f := f2a :: f0a :: bF }) [3, 5, 11] rfl (by kernel_rfl) (by kernel_rfl) ⟨⟨rfl, rfl⟩, trivial⟩ ⟨?_, ?_, ?_, trivial⟩
    ·skip
     refine cstY rfl rfl rfl ?_
     let x3 : Nat × SV := (60, .one (.sl 6 0 2 2))
     let m3a : Nat × LB := (6, .cells 41 (((cN sA).cells ++ (vN 0).cells).map SA.v))
     refine zag ({ s := x3 :: x2 :: x0 :: bS, m := m3a :: bM, k := 7, f := f2a :: f0a :: bF }) [4, 5, 11] rfl (by kernel_rfl) (by kernel_rfl) ⟨⟨rfl, trivial⟩, trivial⟩ ⟨?_, ?_, ?_, trivial⟩
     ·skip
      refine cstY rfl rfl rfl ?_
      refine zad 6 (vs := (cN sA).cells ++ (vN 0).cells) rfl rfl (fun g => ?_)
      refine zaa [] (za1 (some ⟨g, 0, none⟩)) rfl trivial rfl rfl (fun w h => ⟨zbn h.1 (cNa w) (vN0 w), vN0 w⟩) (fun x _ => ?_) (fun x hx => ?_)
      ·obtain ⟨xvk, xvn, xvs, xvla, xvlc, xvls, xvaa, xvac, xvus⟩ := x
       exact ⟨rfl, rfl⟩
      have hf : x.tm = tO := hx
      obtain ⟨xfk, xfn, xfs, xfla, xflc, xfls, xfaa, xfac, xfus⟩ := x
      let Tf : TT := (TT.mk xfk xfn xfs xfla xflc xfls xfaa xfac xfus)
      let x4 : Nat × SV := (61, ttA Tf)
      let m4a : Nat × LB := (6, .dead)
      let f4a : World -> Prop := fun w => TTIn w Tf
      let f4b : World -> Prop := fun w => SlAt w (some ⟨g, 0, none⟩) ((cN sA).cells ++ (vN 0).cells)
      refine zag ({ s := x4 :: x3 :: x2 :: x0 :: bS, m := m4a :: m3a :: bM, k := 7, f := f4a :: f4b :: f2a :: f0a :: bF }) [5, 11] rfl (by kernel_rfl) (by kernel_rfl) ⟨⟨rfl, trivial⟩, trivial⟩ ⟨?_, ?_, trivial⟩
      ·skip
       refine cstY rfl rfl rfl ?_
       let x5 : Nat × SV := (62, .one (.sl 7 0 2 2))
       let m5a : Nat × LB := (7, .cells 9 [.v (.string sP), .v (.string sQ)])
       refine zag ({ s := x5 :: x4 :: x3 :: x2 :: x0 :: bS, m := m5a :: m4a :: m3a :: bM, k := 8, f := f4a :: f4b :: f2a :: f0a :: bF }) [6, 11] rfl (by kernel_rfl) (by kernel_rfl) ⟨⟨rfl, trivial⟩, trivial⟩ ⟨?_, ?_, trivial⟩
       ·skip
        refine cstY rfl rfl rfl ?_
        refine zad 7 (vs := [.string sP, .string sQ]) rfl rfl (fun g2 => ?_)
        refine zaa [] (za2 Tf hf (some ⟨g2, 0, none⟩)) rfl trivial rfl rfl (fun w h => ⟨⟨h.2.2.2.2.2.1.1, ⟨h.1, fun h => (by cases h), Nat.le_refl _, by decide⟩⟩, h.2.1⟩) (fun q _ => ?_) (fun q hq => ?_)
        ·obtain ⟨⟨A1, c1⟩, dn, xvk, xvn, xvs, xvla, xvlc, xvls, xvaa, xvac, xvus⟩ := q
         exact ⟨rfl, rfl⟩
        obtain ⟨⟨A1, c1⟩, dn, xik, xin, xis, xila, xilc, xils, xiaa, xiac, xius⟩ := q
        obtain ⟨hq1, hi⟩ := hq
        have hi : (TT.mk xik xin xis xila xilc xils xiaa xiac xius).tm = cT sQ := hi
        obtain ⟨u0, u1, hdn, hp, hq⟩ := zbi dn hq1
        have hdn : dn = [(sP, u0), (sQ, u1)] := hdn
        subst hdn
        obtain ⟨xpk, xpn, xps, xpla, xplc, xpls, xpaa, xpac, xpus⟩ := u0
        obtain ⟨xqk, xqn, xqs, xqla, xqlc, xqls, xqaa, xqac, xqus⟩ := u1
        let Tp : TT := (TT.mk xpk xpn xps xpla xplc xpls xpaa xpac xpus)
        let Tq : TT := (TT.mk xqk xqn xqs xqla xqlc xqls xqaa xqac xqus)
        let Ti : TT := (TT.mk xik xin xis xila xilc xils xiaa xiac xius)
        let x6 : Nat × SV := (63, .tup [.one (.v (.slice A1 2 c1)), .agg (Ti.cells.map SA.v), .one (.v (.bool true))])
        let m6a : Nat × LB := (7, .dead)
        let f6a : World -> Prop := zax A1 [(sP, Tp), (sQ, Tq)] Ti
        let f6b : World -> Prop := fun w => SlAt w (some ⟨g2, 0, none⟩) [.string sP, .string sQ]
        let x7 : Nat × SV := (56, .tup [.one (.v (.slice A1 2 c1)), .agg (Ti.cells.map SA.v), .one (.v (.bool true))])
        refine zae 7 x7.2 _ (by kernel_rfl) ⟨⟨rfl, trivial⟩, trivial⟩ (by kernel_rfl) rfl rfl rfl ?_
        let x8 : Nat × SV := (64, .one (.v (.slice A1 2 c1)))
        refine zae 8 x8.2 _ (by kernel_rfl) ⟨⟨rfl, trivial⟩, trivial⟩ (by kernel_rfl) rfl rfl rfl ?_
        let x9 : Nat × SV := (65, .agg (Ti.cells.map SA.v))
        refine zae 9 x9.2 _ (by kernel_rfl) ⟨⟨rfl, trivial⟩, trivial⟩ (by kernel_rfl) rfl rfl rfl ?_
        let x10 : Nat × SV := (66, .one (.v (.bool true)))
        refine zae 10 x10.2 _ (by kernel_rfl) ⟨⟨rfl, trivial⟩, trivial⟩ (by kernel_rfl) rfl rfl rfl ?_
        refine zag ({ s := x10 :: x9 :: x8 :: x7 :: x6 :: x5 :: x4 :: x3 :: x2 :: x0 :: bS, m := m6a :: m5a :: m4a :: m3a :: bM, k := 8, f := f6a :: f6b :: f4a :: f4b :: f2a :: f0a :: bF }) [11] rfl (by kernel_rfl) (by kernel_rfl) ⟨⟨rfl, trivial⟩, trivial⟩ ⟨?_, trivial⟩
        refine cstY rfl rfl rfl ?_
        let x11 : Nat × SV := (14, .one (.p 8 0))
        let m11a : Nat × LB := (8, .cells 41 zan)
        let x12 : Nat × SV := (13, .one (.v (.slice A1 2 c1)))
        refine zae 12 x12.2 _ (by kernel_rfl) ⟨⟨rfl, trivial⟩, trivial⟩ (by kernel_rfl) rfl rfl rfl ?_
        refine zag ({ s := x12 :: x11 :: x10 :: x9 :: x8 :: x7 :: x6 :: x5 :: x4 :: x3 :: x2 :: x0 :: bS, m := m11a :: m6a :: m5a :: m4a :: m3a :: bM, k := 9, f := f6a :: f6b :: f4a :: f4b :: f2a :: f0a :: bF }) [13] rfl (by kernel_rfl) (by kernel_rfl) ⟨⟨rfl, trivial⟩, trivial⟩ ⟨?_, trivial⟩
        refine cstY rfl rfl rfl ?_
        let m13a : Nat × LB := (8, .cells 41 (Ti.cells.map SA.v))
        let x14 : Nat × SV := (15, .one (.v (.bool true)))
        refine zae 14 x14.2 _ (by kernel_rfl) ⟨⟨rfl, trivial⟩, trivial⟩ (by kernel_rfl) rfl rfl rfl ?_
        refine zau _ rfl (by kernel_rfl) ⟨⟨rfl, trivial⟩, trivial⟩ ?_
        exact ⟨((A1, c1), (Tp, Tq), Ti), ⟨hp, hq, hi⟩, (zab [(0, .blk 0), (1, .blk 1), (2, .blk 2), (3, .blk 3), (4, .blk 4), (5, .blk 5), (6, .blk 8)] rfl rfl rfl rfl (leB rfl) ⟨⟨_, rfl, rfl⟩, ⟨_, rfl, rfl⟩, ⟨_, rfl, rfl⟩, ⟨_, rfl, rfl⟩, ⟨_, rfl, rfl⟩, ⟨_, rfl, rfl⟩, ⟨_, rfl, rfl⟩, ⟨_, rfl, rfl⟩, ⟨_, rfl, rfl⟩, ⟨_, rfl, rfl⟩, ⟨_, rfl, rfl⟩, ⟨_, rfl, rfl⟩, ⟨_, rfl, rfl⟩, trivial⟩ ⟨⟨_, rfl, rfl⟩, ⟨_, rfl, rfl⟩, ⟨_, rfl, rfl⟩, ⟨_, rfl, rfl⟩, ⟨_, rfl, rfl⟩, ⟨_, rfl, rfl⟩, ⟨_, rfl, rfl⟩, trivial⟩ ⟨⟨amG.up _, fun w h => h.2.2.2.2.2.2.1⟩, ⟨zax.up _ _ _, fun w h => h.1⟩, trivial⟩)⟩
       ·skip
        refine cstY rfl rfl rfl ?_
        let x11 : Nat × SV := (14, .one (.p 8 0))
        let m11a : Nat × LB := (8, .cells 41 zan)
        refine zag ({ s := x11 :: x5 :: x4 :: x3 :: x2 :: x0 :: bS, m := m11a :: m5a :: m4a :: m3a :: bM, k := 9, f := f4a :: f4b :: f2a :: f0a :: bF }) [6] rfl (by kernel_rfl) (by kernel_rfl) ⟨⟨rfl, trivial⟩, trivial⟩ ⟨?_, trivial⟩
        refine cstY rfl rfl rfl ?_
        refine zad 7 (vs := [.string sP, .string sQ]) rfl rfl (fun g2 => ?_)
        refine zaa [] (za2 Tf hf (some ⟨g2, 0, none⟩)) rfl trivial rfl rfl (fun w h => ⟨⟨h.2.2.2.2.2.1.1, ⟨h.1, fun h => (by cases h), Nat.le_refl _, by decide⟩⟩, h.2.1⟩) (fun q _ => ?_) (fun q hq => ?_)
        ·obtain ⟨⟨A1, c1⟩, dn, xvk, xvn, xvs, xvla, xvlc, xvls, xvaa, xvac, xvus⟩ := q
         exact ⟨rfl, rfl⟩
        obtain ⟨⟨A1, c1⟩, dn, xik, xin, xis, xila, xilc, xils, xiaa, xiac, xius⟩ := q
        obtain ⟨hq1, hi⟩ := hq
        have hi : (TT.mk xik xin xis xila xilc xils xiaa xiac xius).tm = cT sQ := hi
        obtain ⟨u0, u1, hdn, hp, hq⟩ := zbi dn hq1
        have hdn : dn = [(sP, u0), (sQ, u1)] := hdn
        subst hdn
        obtain ⟨xpk, xpn, xps, xpla, xplc, xpls, xpaa, xpac, xpus⟩ := u0
        obtain ⟨xqk, xqn, xqs, xqla, xqlc, xqls, xqaa, xqac, xqus⟩ := u1
        let Tp : TT := (TT.mk xpk xpn xps xpla xplc xpls xpaa xpac xpus)
        let Tq : TT := (TT.mk xqk xqn xqs xqla xqlc xqls xqaa xqac xqus)
        let Ti : TT := (TT.mk xik xin xis xila xilc xils xiaa xiac xius)
        let x6 : Nat × SV := (63, .tup [.one (.v (.slice A1 2 c1)), .agg (Ti.cells.map SA.v), .one (.v (.bool true))])
        let m6a : Nat × LB := (7, .dead)
        let f6a : World -> Prop := zax A1 [(sP, Tp), (sQ, Tq)] Ti
        let f6b : World -> Prop := fun w => SlAt w (some ⟨g2, 0, none⟩) [.string sP, .string sQ]
        let x7 : Nat × SV := (56, .tup [.one (.v (.slice A1 2 c1)), .agg (Ti.cells.map SA.v), .one (.v (.bool true))])
        refine zae 7 x7.2 _ (by kernel_rfl) ⟨⟨rfl, trivial⟩, trivial⟩ (by kernel_rfl) rfl rfl rfl ?_
        let x8 : Nat × SV := (64, .one (.v (.slice A1 2 c1)))
        refine zae 8 x8.2 _ (by kernel_rfl) ⟨⟨rfl, trivial⟩, trivial⟩ (by kernel_rfl) rfl rfl rfl ?_
        let x9 : Nat × SV := (65, .agg (Ti.cells.map SA.v))
        refine zae 9 x9.2 _ (by kernel_rfl) ⟨⟨rfl, trivial⟩, trivial⟩ (by kernel_rfl) rfl rfl rfl ?_
        let x10 : Nat × SV := (66, .one (.v (.bool true)))
        refine zae 10 x10.2 _ (by kernel_rfl) ⟨⟨rfl, trivial⟩, trivial⟩ (by kernel_rfl) rfl rfl rfl ?_
        let x12 : Nat × SV := (13, .one (.v (.slice A1 2 c1)))
        refine zae 12 x12.2 _ (by kernel_rfl) ⟨⟨rfl, trivial⟩, trivial⟩ (by kernel_rfl) rfl rfl rfl ?_
        refine zag ({ s := x12 :: x10 :: x9 :: x8 :: x7 :: x6 :: x11 :: x5 :: x4 :: x3 :: x2 :: x0 :: bS, m := m6a :: m11a :: m5a :: m4a :: m3a :: bM, k := 9, f := f6a :: f6b :: f4a :: f4b :: f2a :: f0a :: bF }) [13] rfl (by kernel_rfl) (by kernel_rfl) ⟨⟨rfl, trivial⟩, trivial⟩ ⟨?_, trivial⟩
        refine cstY rfl rfl rfl ?_
        let m13a : Nat × LB := (8, .cells 41 (Ti.cells.map SA.v))
        let x14 : Nat × SV := (15, .one (.v (.bool true)))
        refine zae 14 x14.2 _ (by kernel_rfl) ⟨⟨rfl, trivial⟩, trivial⟩ (by kernel_rfl) rfl rfl rfl ?_
        refine zau _ rfl (by kernel_rfl) ⟨⟨rfl, trivial⟩, trivial⟩ ?_
        exact ⟨((A1, c1), (Tp, Tq), Ti), ⟨hp, hq, hi⟩, (zab [(0, .blk 0), (1, .blk 1), (2, .blk 2), (3, .blk 3), (4, .blk 4), (5, .blk 5), (6, .blk 8)] rfl rfl rfl rfl (leB rfl) ⟨⟨_, rfl, rfl⟩, ⟨_, rfl, rfl⟩, ⟨_, rfl, rfl⟩, ⟨_, rfl, rfl⟩, ⟨_, rfl, rfl⟩, ⟨_, rfl, rfl⟩, ⟨_, rfl, rfl⟩, ⟨_, rfl, rfl⟩, ⟨_, rfl, rfl⟩, ⟨_, rfl, rfl⟩, ⟨_, rfl, rfl⟩, ⟨_, rfl, rfl⟩, ⟨_, rfl, rfl⟩, trivial⟩ ⟨⟨_, rfl, rfl⟩, ⟨_, rfl, rfl⟩, ⟨_, rfl, rfl⟩, ⟨_, rfl, rfl⟩, ⟨_, rfl, rfl⟩, ⟨_, rfl, rfl⟩, ⟨_, rfl, rfl⟩, trivial⟩ ⟨⟨amG.up _, fun w h => h.2.2.2.2.2.2.1⟩, ⟨zax.up _ _ _, fun w h => h.1⟩, trivial⟩)⟩
      ·skip
       refine cstY rfl rfl rfl ?_
       let x11 : Nat × SV := (14, .one (.p 7 0))
       let m11a : Nat × LB := (7, .cells 41 zan)
       refine zag ({ s := x11 :: x4 :: x3 :: x2 :: x0 :: bS, m := m11a :: m4a :: m3a :: bM, k := 8, f := f4a :: f4b :: f2a :: f0a :: bF }) [5] rfl (by kernel_rfl) (by kernel_rfl) ⟨⟨rfl, trivial⟩, trivial⟩ ⟨?_, trivial⟩
       refine cstY rfl rfl rfl ?_
       let x5 : Nat × SV := (62, .one (.sl 8 0 2 2))
       let m5a : Nat × LB := (8, .cells 9 [.v (.string sP), .v (.string sQ)])
       refine zag ({ s := x5 :: x11 :: x4 :: x3 :: x2 :: x0 :: bS, m := m5a :: m11a :: m4a :: m3a :: bM, k := 9, f := f4a :: f4b :: f2a :: f0a :: bF }) [6] rfl (by kernel_rfl) (by kernel_rfl) ⟨⟨rfl, trivial⟩, trivial⟩ ⟨?_, trivial⟩
       refine cstY rfl rfl rfl ?_
       refine zad 8 (vs := [.string sP, .string sQ]) rfl rfl (fun g2 => ?_)
       refine zaa [] (za2 Tf hf (some ⟨g2, 0, none⟩)) rfl trivial rfl rfl (fun w h => ⟨⟨h.2.2.2.2.2.1.1, ⟨h.1, fun h => (by cases h), Nat.le_refl _, by decide⟩⟩, h.2.1⟩) (fun q _ => ?_) (fun q hq => ?_)
       ·obtain ⟨⟨A1, c1⟩, dn, xvk, xvn, xvs, xvla, xvlc, xvls, xvaa, xvac, xvus⟩ := q
        exact ⟨rfl, rfl⟩
       obtain ⟨⟨A1, c1⟩, dn, xik, xin, xis, xila, xilc, xils, xiaa, xiac, xius⟩ := q
       obtain ⟨hq1, hi⟩ := hq
       have hi : (TT.mk xik xin xis xila xilc xils xiaa xiac xius).tm = cT sQ := hi
       obtain ⟨u0, u1, hdn, hp, hq⟩ := zbi dn hq1
       have hdn : dn = [(sP, u0), (sQ, u1)] := hdn
       subst hdn
       obtain ⟨xpk, xpn, xps, xpla, xplc, xpls, xpaa, xpac, xpus⟩ := u0
       obtain ⟨xqk, xqn, xqs, xqla, xqlc, xqls, xqaa, xqac, xqus⟩ := u1
       let Tp : TT := (TT.mk xpk xpn xps xpla xplc xpls xpaa xpac xpus)
       let Tq : TT := (TT.mk xqk xqn xqs xqla xqlc xqls xqaa xqac xqus)
       let Ti : TT := (TT.mk xik xin xis xila xilc xils xiaa xiac xius)
       let x6 : Nat × SV := (63, .tup [.one (.v (.slice A1 2 c1)), .agg (Ti.cells.map SA.v), .one (.v (.bool true))])
       let m6a : Nat × LB := (8, .dead)
       let f6a : World -> Prop := zax A1 [(sP, Tp), (sQ, Tq)] Ti
       let f6b : World -> Prop := fun w => SlAt w (some ⟨g2, 0, none⟩) [.string sP, .string sQ]
       let x7 : Nat × SV := (56, .tup [.one (.v (.slice A1 2 c1)), .agg (Ti.cells.map SA.v), .one (.v (.bool true))])
       refine zae 7 x7.2 _ (by kernel_rfl) ⟨⟨rfl, trivial⟩, trivial⟩ (by kernel_rfl) rfl rfl rfl ?_
       let x8 : Nat × SV := (64, .one (.v (.slice A1 2 c1)))
       refine zae 8 x8.2 _ (by kernel_rfl) ⟨⟨rfl, trivial⟩, trivial⟩ (by kernel_rfl) rfl rfl rfl ?_
       let x9 : Nat × SV := (65, .agg (Ti.cells.map SA.v))
       refine zae 9 x9.2 _ (by kernel_rfl) ⟨⟨rfl, trivial⟩, trivial⟩ (by kernel_rfl) rfl rfl rfl ?_
       let x10 : Nat × SV := (66, .one (.v (.bool true)))
       refine zae 10 x10.2 _ (by kernel_rfl) ⟨⟨rfl, trivial⟩, trivial⟩ (by kernel_rfl) rfl rfl rfl ?_
       let x12 : Nat × SV := (13, .one (.v (.slice A1 2 c1)))
       refine zae 12 x12.2 _ (by kernel_rfl) ⟨⟨rfl, trivial⟩, trivial⟩ (by kernel_rfl) rfl rfl rfl ?_
       refine zag ({ s := x12 :: x10 :: x9 :: x8 :: x7 :: x6 :: x5 :: x11 :: x4 :: x3 :: x2 :: x0 :: bS, m := m6a :: m5a :: m11a :: m4a :: m3a :: bM, k := 9, f := f6a :: f6b :: f4a :: f4b :: f2a :: f0a :: bF }) [13] rfl (by kernel_rfl) (by kernel_rfl) ⟨⟨rfl, trivial⟩, trivial⟩ ⟨?_, trivial⟩
       refine cstY rfl rfl rfl ?_
       let m13a : Nat × LB := (7, .cells 41 (Ti.cells.map SA.v))
       let x14 : Nat × SV := (15, .one (.v (.bool true)))
       refine zae 14 x14.2 _ (by kernel_rfl) ⟨⟨rfl, trivial⟩, trivial⟩ (by kernel_rfl) rfl rfl rfl ?_
       refine zau _ rfl (by kernel_rfl) ⟨⟨rfl, trivial⟩, trivial⟩ ?_
       exact ⟨((A1, c1), (Tp, Tq), Ti), ⟨hp, hq, hi⟩, (zab [(0, .blk 0), (1, .blk 1), (2, .blk 2), (3, .blk 3), (4, .blk 4), (5, .blk 5), (6, .blk 7)] rfl rfl rfl rfl (leB rfl) ⟨⟨_, rfl, rfl⟩, ⟨_, rfl, rfl⟩, ⟨_, rfl, rfl⟩, ⟨_, rfl, rfl⟩, ⟨_, rfl, rfl⟩, ⟨_, rfl, rfl⟩, ⟨_, rfl, rfl⟩, ⟨_, rfl, rfl⟩, ⟨_, rfl, rfl⟩, ⟨_, rfl, rfl⟩, ⟨_, rfl, rfl⟩, ⟨_, rfl, rfl⟩, ⟨_, rfl, rfl⟩, trivial⟩ ⟨⟨_, rfl, rfl⟩, ⟨_, rfl, rfl⟩, ⟨_, rfl, rfl⟩, ⟨_, rfl, rfl⟩, ⟨_, rfl, rfl⟩, ⟨_, rfl, rfl⟩, ⟨_, rfl, rfl⟩, trivial⟩ ⟨⟨amG.up _, fun w h => h.2.2.2.2.2.2.1⟩, ⟨zax.up _ _ _, fun w h => h.1⟩, trivial⟩)⟩
     ·skip
      refine cstY rfl rfl rfl ?_
      let x5 : Nat × SV := (62, .one (.sl 7 0 2 2))
      let m5a : Nat × LB := (7, .cells 9 [.v (.string sP), .v (.string sQ)])
      refine zag ({ s := x5 :: x3 :: x2 :: x0 :: bS, m := m5a :: m3a :: bM, k := 8, f := f2a :: f0a :: bF }) [4, 11] rfl (by kernel_rfl) (by kernel_rfl) ⟨⟨rfl, trivial⟩, trivial⟩ ⟨?_, ?_, trivial⟩
      ·skip
       refine cstY rfl rfl rfl ?_
       refine zad 6 (vs := (cN sA).cells ++ (vN 0).cells) rfl rfl (fun g => ?_)
       refine zaa [] (za1 (some ⟨g, 0, none⟩)) rfl trivial rfl rfl (fun w h => ⟨zbn h.1 (cNa w) (vN0 w), vN0 w⟩) (fun x _ => ?_) (fun x hx => ?_)
       ·obtain ⟨xvk, xvn, xvs, xvla, xvlc, xvls, xvaa, xvac, xvus⟩ := x
        exact ⟨rfl, rfl⟩
       have hf : x.tm = tO := hx
       obtain ⟨xfk, xfn, xfs, xfla, xflc, xfls, xfaa, xfac, xfus⟩ := x
       let Tf : TT := (TT.mk xfk xfn xfs xfla xflc xfls xfaa xfac xfus)
       let x4 : Nat × SV := (61, ttA Tf)
       let m4a : Nat × LB := (6, .dead)
       let f4a : World -> Prop := fun w => TTIn w Tf
       let f4b : World -> Prop := fun w => SlAt w (some ⟨g, 0, none⟩) ((cN sA).cells ++ (vN 0).cells)
       refine zag ({ s := x4 :: x5 :: x3 :: x2 :: x0 :: bS, m := m4a :: m5a :: m3a :: bM, k := 8, f := f4a :: f4b :: f2a :: f0a :: bF }) [6, 11] rfl (by kernel_rfl) (by kernel_rfl) ⟨⟨rfl, trivial⟩, trivial⟩ ⟨?_, ?_, trivial⟩
       ·skip
        refine cstY rfl rfl rfl ?_
        refine zad 7 (vs := [.string sP, .string sQ]) rfl rfl (fun g2 => ?_)
        refine zaa [] (za2 Tf hf (some ⟨g2, 0, none⟩)) rfl trivial rfl rfl (fun w h => ⟨⟨h.2.2.2.2.2.1.1, ⟨h.1, fun h => (by cases h), Nat.le_refl _, by decide⟩⟩, h.2.1⟩) (fun q _ => ?_) (fun q hq => ?_)
        ·obtain ⟨⟨A1, c1⟩, dn, xvk, xvn, xvs, xvla, xvlc, xvls, xvaa, xvac, xvus⟩ := q
         exact ⟨rfl, rfl⟩
        obtain ⟨⟨A1, c1⟩, dn, xik, xin, xis, xila, xilc, xils, xiaa, xiac, xius⟩ := q
        obtain ⟨hq1, hi⟩ := hq
        have hi : (TT.mk xik xin xis xila xilc xils xiaa xiac xius).tm = cT sQ := hi
        obtain ⟨u0, u1, hdn, hp, hq⟩ := zbi dn hq1
        have hdn : dn = [(sP, u0), (sQ, u1)] := hdn
        subst hdn
        obtain ⟨xpk, xpn, xps, xpla, xplc, xpls, xpaa, xpac, xpus⟩ := u0
        obtain ⟨xqk, xqn, xqs, xqla, xqlc, xqls, xqaa, xqac, xqus⟩ := u1
        let Tp : TT := (TT.mk xpk xpn xps xpla xplc xpls xpaa xpac xpus)
        let Tq : TT := (TT.mk xqk xqn xqs xqla xqlc xqls xqaa xqac xqus)
        let Ti : TT := (TT.mk xik xin xis xila xilc xils xiaa xiac xius)
        let x6 : Nat × SV := (63, .tup [.one (.v (.slice A1 2 c1)), .agg (Ti.cells.map SA.v), .one (.v (.bool true))])
        let m6a : Nat × LB := (7, .dead)
        let f6a : World -> Prop := zax A1 [(sP, Tp), (sQ, Tq)] Ti
        let f6b : World -> Prop := fun w => SlAt w (some ⟨g2, 0, none⟩) [.string sP, .string sQ]
        let x7 : Nat × SV := (56, .tup [.one (.v (.slice A1 2 c1)), .agg (Ti.cells.map SA.v), .one (.v (.bool true))])
        refine zae 7 x7.2 _ (by kernel_rfl) ⟨⟨rfl, trivial⟩, trivial⟩ (by kernel_rfl) rfl rfl rfl ?_
        let x8 : Nat × SV := (64, .one (.v (.slice A1 2 c1)))
        refine zae 8 x8.2 _ (by kernel_rfl) ⟨⟨rfl, trivial⟩, trivial⟩ (by kernel_rfl) rfl rfl rfl ?_
        let x9 : Nat × SV := (65, .agg (Ti.cells.map SA.v))
        refine zae 9 x9.2 _ (by kernel_rfl) ⟨⟨rfl, trivial⟩, trivial⟩ (by kernel_rfl) rfl rfl rfl ?_
        let x10 : Nat × SV := (66, .one (.v (.bool true)))
        refine zae 10 x10.2 _ (by kernel_rfl) ⟨⟨rfl, trivial⟩, trivial⟩ (by kernel_rfl) rfl rfl rfl ?_
        refine zag ({ s := x10 :: x9 :: x8 :: x7 :: x6 :: x4 :: x5 :: x3 :: x2 :: x0 :: bS, m := m6a :: m4a :: m5a :: m3a :: bM, k := 8, f := f6a :: f6b :: f4a :: f4b :: f2a :: f0a :: bF }) [11] rfl (by kernel_rfl) (by kernel_rfl) ⟨⟨rfl, trivial⟩, trivial⟩ ⟨?_, trivial⟩
        refine cstY rfl rfl rfl ?_
        let x11 : Nat × SV := (14, .one (.p 8 0))
        let m11a : Nat × LB := (8, .cells 41 zan)
        let x12 : Nat × SV := (13, .one (.v (.slice A1 2 c1)))
        refine zae 12 x12.2 _ (by kernel_rfl) ⟨⟨rfl, trivial⟩, trivial⟩ (by kernel_rfl) rfl rfl rfl ?_
        refine zag ({ s := x12 :: x11 :: x10 :: x9 :: x8 :: x7 :: x6 :: x4 :: x5 :: x3 :: x2 :: x0 :: bS, m := m11a :: m6a :: m4a :: m5a :: m3a :: bM, k := 9, f := f6a :: f6b :: f4a :: f4b :: f2a :: f0a :: bF }) [13] rfl (by kernel_rfl) (by kernel_rfl) ⟨⟨rfl, trivial⟩, trivial⟩ ⟨?_, trivial⟩
        refine cstY rfl rfl rfl ?_
        let m13a : Nat × LB := (8, .cells 41 (Ti.cells.map SA.v))
        let x14 : Nat × SV := (15, .one (.v (.bool true)))
        refine zae 14 x14.2 _ (by kernel_rfl) ⟨⟨rfl, trivial⟩, trivial⟩ (by kernel_rfl) rfl rfl rfl ?_
        refine zau _ rfl (by kernel_rfl) ⟨⟨rfl, trivial⟩, trivial⟩ ?_
        exact ⟨((A1, c1), (Tp, Tq), Ti), ⟨hp, hq, hi⟩, (zab [(0, .blk 0), (1, .blk 1), (2, .blk 2), (3, .blk 3), (4, .blk 4), (5, .blk 5), (6, .blk 8)] rfl rfl rfl rfl (leB rfl) ⟨⟨_, rfl, rfl⟩, ⟨_, rfl, rfl⟩, ⟨_, rfl, rfl⟩, ⟨_, rfl, rfl⟩, ⟨_, rfl, rfl⟩, ⟨_, rfl, rfl⟩, ⟨_, rfl, rfl⟩, ⟨_, rfl, rfl⟩, ⟨_, rfl, rfl⟩, ⟨_, rfl, rfl⟩, ⟨_, rfl, rfl⟩, ⟨_, rfl, rfl⟩, ⟨_, rfl, rfl⟩, trivial⟩ ⟨⟨_, rfl, rfl⟩, ⟨_, rfl, rfl⟩, ⟨_, rfl, rfl⟩, ⟨_, rfl, rfl⟩, ⟨_, rfl, rfl⟩, ⟨_, rfl, rfl⟩, ⟨_, rfl, rfl⟩, trivial⟩ ⟨⟨amG.up _, fun w h => h.2.2.2.2.2.2.1⟩, ⟨zax.up _ _ _, fun w h => h.1⟩, trivial⟩)⟩
       ·skip
        refine cstY rfl rfl rfl ?_
        let x11 : Nat × SV := (14, .one (.p 8 0))
        let m11a : Nat × LB := (8, .cells 41 zan)
        refine zag ({ s := x11 :: x4 :: x5 :: x3 :: x2 :: x0 :: bS, m := m11a :: m4a :: m5a :: m3a :: bM, k := 9, f := f4a :: f4b :: f2a :: f0a :: bF }) [6] rfl (by kernel_rfl) (by kernel_rfl) ⟨⟨rfl, trivial⟩, trivial⟩ ⟨?_, trivial⟩
        refine cstY rfl rfl rfl ?_
        refine zad 7 (vs := [.string sP, .string sQ]) rfl rfl (fun g2 => ?_)
        refine zaa [] (za2 Tf hf (some ⟨g2, 0, none⟩)) rfl trivial rfl rfl (fun w h => ⟨⟨h.2.2.2.2.2.1.1, ⟨h.1, fun h => (by cases h), Nat.le_refl _, by decide⟩⟩, h.2.1⟩) (fun q _ => ?_) (fun q hq => ?_)
        ·obtain ⟨⟨A1, c1⟩, dn, xvk, xvn, xvs, xvla, xvlc, xvls, xvaa, xvac, xvus⟩ := q
         exact ⟨rfl, rfl⟩
        obtain ⟨⟨A1, c1⟩, dn, xik, xin, xis, xila, xilc, xils, xiaa, xiac, xius⟩ := q
        obtain ⟨hq1, hi⟩ := hq
        have hi : (TT.mk xik xin xis xila xilc xils xiaa xiac xius).tm = cT sQ := hi
        obtain ⟨u0, u1, hdn, hp, hq⟩ := zbi dn hq1
        have hdn : dn = [(sP, u0), (sQ, u1)] := hdn
        subst hdn
        obtain ⟨xpk, xpn, xps, xpla, xplc, xpls, xpaa, xpac, xpus⟩ := u0
        obtain ⟨xqk, xqn, xqs, xqla, xqlc, xqls, xqaa, xqac, xqus⟩ := u1
        let Tp : TT := (TT.mk xpk xpn xps xpla xplc xpls xpaa xpac xpus)
        let Tq : TT := (TT.mk xqk xqn xqs xqla xqlc xqls xqaa xqac xqus)
        let Ti : TT := (TT.mk xik xin xis xila xilc xils xiaa xiac xius)
        let x6 : Nat × SV := (63, .tup [.one (.v (.slice A1 2 c1)), .agg (Ti.cells.map SA.v), .one (.v (.bool true))])
        let m6a : Nat × LB := (7, .dead)
        let f6a : World -> Prop := zax A1 [(sP, Tp), (sQ, Tq)] Ti
        let f6b : World -> Prop := fun w => SlAt w (some ⟨g2, 0, none⟩) [.string sP, .string sQ]
        let x7 : Nat × SV := (56, .tup [.one (.v (.slice A1 2 c1)), .agg (Ti.cells.map SA.v), .one (.v (.bool true))])
        refine zae 7 x7.2 _ (by kernel_rfl) ⟨⟨rfl, trivial⟩, trivial⟩ (by kernel_rfl) rfl rfl rfl ?_
        let x8 : Nat × SV := (64, .one (.v (.slice A1 2 c1)))
        refine zae 8 x8.2 _ (by kernel_rfl) ⟨⟨rfl, trivial⟩, trivial⟩ (by kernel_rfl) rfl rfl rfl ?_
        let x9 : Nat × SV := (65, .agg (Ti.cells.map SA.v))
        refine zae 9 x9.2 _ (by kernel_rfl) ⟨⟨rfl, trivial⟩, trivial⟩ (by kernel_rfl) rfl rfl rfl ?_
        let x10 : Nat × SV := (66, .one (.v (.bool true)))
        refine zae 10 x10.2 _ (by kernel_rfl) ⟨⟨rfl, trivial⟩, trivial⟩ (by kernel_rfl) rfl rfl rfl ?_
        let x12 : Nat × SV := (13, .one (.v (.slice A1 2 c1)))
        refine zae 12 x12.2 _ (by kernel_rfl) ⟨⟨rfl, trivial⟩, trivial⟩ (by kernel_rfl) rfl rfl rfl ?_
        refine zag ({ s := x12 :: x10 :: x9 :: x8 :: x7 :: x6 :: x11 :: x4 :: x5 :: x3 :: x2 :: x0 :: bS, m := m6a :: m11a :: m4a :: m5a :: m3a :: bM, k := 9, f := f6a :: f6b :: f4a :: f4b :: f2a :: f0a :: bF }) [13] rfl (by kernel_rfl) (by kernel_rfl) ⟨⟨rfl, trivial⟩, trivial⟩ ⟨?_, trivial⟩
        refine cstY rfl rfl rfl ?_
        let m13a : Nat × LB := (8, .cells 41 (Ti.cells.map SA.v))
        let x14 : Nat × SV := (15, .one (.v (.bool true)))
        refine zae 14 x14.2 _ (by kernel_rfl) ⟨⟨rfl, trivial⟩, trivial⟩ (by kernel_rfl) rfl rfl rfl ?_
        refine zau _ rfl (by kernel_rfl) ⟨⟨rfl, trivial⟩, trivial⟩ ?_
        exact ⟨((A1, c1), (Tp, Tq), Ti), ⟨hp, hq, hi⟩, (zab [(0, .blk 0), (1, .blk 1), (2, .blk 2), (3, .blk 3), (4, .blk 4), (5, .blk 5), (6, .blk 8)] rfl rfl rfl rfl (leB rfl) ⟨⟨_, rfl, rfl⟩, ⟨_, rfl, rfl⟩, ⟨_, rfl, rfl⟩, ⟨_, rfl, rfl⟩, ⟨_, rfl, rfl⟩, ⟨_, rfl, rfl⟩, ⟨_, rfl, rfl⟩, ⟨_, rfl, rfl⟩, ⟨_, rfl, rfl⟩, ⟨_, rfl, rfl⟩, ⟨_, rfl, rfl⟩, ⟨_, rfl, rfl⟩, ⟨_, rfl, rfl⟩, trivial⟩ ⟨⟨_, rfl, rfl⟩, ⟨_, rfl, rfl⟩, ⟨_, rfl, rfl⟩, ⟨_, rfl, rfl⟩, ⟨_, rfl, rfl⟩, ⟨_, rfl, rfl⟩, ⟨_, rfl, rfl⟩, trivial⟩ ⟨⟨amG.up _, fun w h => h.2.2.2.2.2.2.1⟩, ⟨zax.up _ _ _, fun w h => h.1⟩, trivial⟩)⟩
      ·skip
       refine cstY rfl rfl rfl ?_
       let x11 : Nat × SV := (14, .one (.p 8 0))
       let m11a : Nat × LB := (8, .cells 41 zan)
       refine zag ({ s := x11 :: x5 :: x3 :: x2 :: x0 :: bS, m := m11a :: m5a :: m3a :: bM, k := 9, f := f2a :: f0a :: bF }) [4] rfl (by kernel_rfl) (by kernel_rfl) ⟨⟨rfl, trivial⟩, trivial⟩ ⟨?_, trivial⟩
       refine cstY rfl rfl rfl ?_
       refine zad 6 (vs := (cN sA).cells ++ (vN 0).cells) rfl rfl (fun g => ?_)
       refine zaa [] (za1 (some ⟨g, 0, none⟩)) rfl trivial rfl rfl (fun w h => ⟨zbn h.1 (cNa w) (vN0 w), vN0 w⟩) (fun x _ => ?_) (fun x hx => ?_)
       ·obtain ⟨xvk, xvn, xvs, xvla, xvlc, xvls, xvaa, xvac, xvus⟩ := x
        exact ⟨rfl, rfl⟩
       have hf : x.tm = tO := hx
       obtain ⟨xfk, xfn, xfs, xfla, xflc, xfls, xfaa, xfac, xfus⟩ := x
       let Tf : TT := (TT.mk xfk xfn xfs xfla xflc xfls xfaa xfac xfus)
       let x4 : Nat × SV := (61, ttA Tf)
       let m4a : Nat × LB := (6, .dead)
       let f4a : World -> Prop := fun w => TTIn w Tf
       let f4b : World -> Prop := fun w => SlAt w (some ⟨g, 0, none⟩) ((cN sA).cells ++ (vN 0).cells)
       refine zag ({ s := x4 :: x11 :: x5 :: x3 :: x2 :: x0 :: bS, m := m4a :: m11a :: m5a :: m3a :: bM, k := 9, f := f4a :: f4b :: f2a :: f0a :: bF }) [6] rfl (by kernel_rfl) (by kernel_rfl) ⟨⟨rfl, trivial⟩, trivial⟩ ⟨?_, trivial⟩
       refine cstY rfl rfl rfl ?_
       refine zad 7 (vs := [.string sP, .string sQ]) rfl rfl (fun g2 => ?_)
       refine zaa [] (za2 Tf hf (some ⟨g2, 0, none⟩)) rfl trivial rfl rfl (fun w h => ⟨⟨h.2.2.2.2.2.1.1, ⟨h.1, fun h => (by cases h), Nat.le_refl _, by decide⟩⟩, h.2.1⟩) (fun q _ => ?_) (fun q hq => ?_)
       ·obtain ⟨⟨A1, c1⟩, dn, xvk, xvn, xvs, xvla, xvlc, xvls, xvaa, xvac, xvus⟩ := q
        exact ⟨rfl, rfl⟩
       obtain ⟨⟨A1, c1⟩, dn, xik, xin, xis, xila, xilc, xils, xiaa, xiac, xius⟩ := q
       obtain ⟨hq1, hi⟩ := hq
       have hi : (TT.mk xik xin xis xila xilc xils xiaa xiac xius).tm = cT sQ := hi
       obtain ⟨u0, u1, hdn, hp, hq⟩ := zbi dn hq1
       have hdn : dn = [(sP, u0), (sQ, u1)] := hdn
       subst hdn
       obtain ⟨xpk, xpn, xps, xpla, xplc, xpls, xpaa, xpac, xpus⟩ := u0
       obtain ⟨xqk, xqn, xqs, xqla, xqlc, xqls, xqaa, xqac, xqus⟩ := u1
       let Tp : TT := (TT.mk xpk xpn xps xpla xplc xpls xpaa xpac xpus)
       let Tq : TT := (TT.mk xqk xqn xqs xqla xqlc xqls xqaa xqac xqus)
       let Ti : TT := (TT.mk xik xin xis xila xilc xils xiaa xiac xius)
       let x6 : Nat × SV := (63, .tup [.one (.v (.slice A1 2 c1)), .agg (Ti.cells.map SA.v), .one (.v (.bool true))])
       let m6a : Nat × LB := (7, .dead)
       let f6a : World -> Prop := zax A1 [(sP, Tp), (sQ, Tq)] Ti
       let f6b : World -> Prop := fun w => SlAt w (some ⟨g2, 0, none⟩) [.string sP, .string sQ]
       let x7 : Nat × SV := (56, .tup [.one (.v (.slice A1 2 c1)), .agg (Ti.cells.map SA.v), .one (.v (.bool true))])
       refine zae 7 x7.2 _ (by kernel_rfl) ⟨⟨rfl, trivial⟩, trivial⟩ (by kernel_rfl) rfl rfl rfl ?_
       let x8 : Nat × SV := (64, .one (.v (.slice A1 2 c1)))
       refine zae 8 x8.2 _ (by kernel_rfl) ⟨⟨rfl, trivial⟩, trivial⟩ (by kernel_rfl) rfl rfl rfl ?_
       let x9 : Nat × SV := (65, .agg (Ti.cells.map SA.v))
       refine zae 9 x9.2 _ (by kernel_rfl) ⟨⟨rfl, trivial⟩, trivial⟩ (by kernel_rfl) rfl rfl rfl ?_
       let x10 : Nat × SV := (66, .one (.v (.bool true)))
       refine zae 10 x10.2 _ (by kernel_rfl) ⟨⟨rfl, trivial⟩, trivial⟩ (by kernel_rfl) rfl rfl rfl ?_
       let x12 : Nat × SV := (13, .one (.v (.slice A1 2 c1)))
       refine zae 12 x12.2 _ (by kernel_rfl) ⟨⟨rfl, trivial⟩, trivial⟩ (by kernel_rfl) rfl rfl rfl ?_
       refine zag ({ s := x12 :: x10 :: x9 :: x8 :: x7 :: x6 :: x4 :: x11 :: x5 :: x3 :: x2 :: x0 :: bS, m := m6a :: m4a :: m11a :: m5a :: m3a :: bM, k := 9, f := f6a :: f6b :: f4a :: f4b :: f2a :: f0a :: bF }) [13] rfl (by kernel_rfl) (by kernel_rfl) ⟨⟨rfl, trivial⟩, trivial⟩ ⟨?_, trivial⟩
       refine cstY rfl rfl rfl ?_
       let m13a : Nat × LB := (8, .cells 41 (Ti.cells.map SA.v))
       let x14 : Nat × SV := (15, .one (.v (.bool true)))
       refine zae 14 x14.2 _ (by kernel_rfl) ⟨⟨rfl, trivial⟩, trivial⟩ (by kernel_rfl) rfl rfl rfl ?_
       refine zau _ rfl (by kernel_rfl) ⟨⟨rfl, trivial⟩, trivial⟩ ?_
       exact ⟨((A1, c1), (Tp, Tq), Ti), ⟨hp, hq, hi⟩, (zab [(0, .blk 0), (1, .blk 1), (2, .blk 2), (3, .blk 3), (4, .blk 4), (5, .blk 5), (6, .blk 8)] rfl rfl rfl rfl (leB rfl) ⟨⟨_, rfl, rfl⟩, ⟨_, rfl, rfl⟩, ⟨_, rfl, rfl⟩, ⟨_, rfl, rfl⟩, ⟨_, rfl, rfl⟩, ⟨_, rfl, rfl⟩, ⟨_, rfl, rfl⟩, ⟨_, rfl, rfl⟩, ⟨_, rfl, rfl⟩, ⟨_, rfl, rfl⟩, ⟨_, rfl, rfl⟩, ⟨_, rfl, rfl⟩, ⟨_, rfl, rfl⟩, trivial⟩ ⟨⟨_, rfl, rfl⟩, ⟨_, rfl, rfl⟩, ⟨_, rfl, rfl⟩, ⟨_, rfl, rfl⟩, ⟨_, rfl, rfl⟩, ⟨_, rfl, rfl⟩, ⟨_, rfl, rfl⟩, trivial⟩ ⟨⟨amG.up _, fun w h => h.2.2.2.2.2.2.1⟩, ⟨zax.up _ _ _, fun w h => h.1⟩, trivial⟩)⟩
     ·skip
      refine cstY rfl rfl rfl ?_
      let x11 : Nat × SV := (14, .one (.p 7 0))
      let m11a : Nat × LB := (7, .cells 41 zan)
      refine zag ({ s := x11 :: x3 :: x2 :: x0 :: bS, m := m11a :: m3a :: bM, k := 8, f := f2a :: f0a :: bF }) [4, 5] rfl (by kernel_rfl) (by kernel_rfl) ⟨⟨rfl, trivial⟩, trivial⟩ ⟨?_, ?_, trivial⟩
      ·skip
       refine cstY rfl rfl rfl ?_
       refine zad 6 (vs := (cN sA).cells ++ (vN 0).cells) rfl rfl (fun g => ?_)
       refine zaa [] (za1 (some ⟨g, 0, none⟩)) rfl trivial rfl rfl (fun w h => ⟨zbn h.1 (cNa w) (vN0 w), vN0 w⟩) (fun x _ => ?_) (fun x hx => ?_)
       ·obtain ⟨xvk, xvn, xvs, xvla, xvlc, xvls, xvaa, xvac, xvus⟩ := x
        exact ⟨rfl, rfl⟩
       have hf : x.tm = tO := hx
       obtain ⟨xfk, xfn, xfs, xfla, xflc, xfls, xfaa, xfac, xfus⟩ := x
       let Tf : TT := (TT.mk xfk xfn xfs xfla xflc xfls xfaa xfac xfus)
       let x4 : Nat × SV := (61, ttA Tf)
       let m4a : Nat × LB := (6, .dead)
       let f4a : World -> Prop := fun w => TTIn w Tf
       let f4b : World -> Prop := fun w => SlAt w (some ⟨g, 0, none⟩) ((cN sA).cells ++ (vN 0).cells)
       refine zag ({ s := x4 :: x11 :: x3 :: x2 :: x0 :: bS, m := m4a :: m11a :: m3a :: bM, k := 8, f := f4a :: f4b :: f2a :: f0a :: bF }) [5] rfl (by kernel_rfl) (by kernel_rfl) ⟨⟨rfl, trivial⟩, trivial⟩ ⟨?_, trivial⟩
       refine cstY rfl rfl rfl ?_
       let x5 : Nat × SV := (62, .one (.sl 8 0 2 2))
       let m5a : Nat × LB := (8, .cells 9 [.v (.string sP), .v (.string sQ)])
       refine zag ({ s := x5 :: x4 :: x11 :: x3 :: x2 :: x0 :: bS, m := m5a :: m4a :: m11a :: m3a :: bM, k := 9, f := f4a :: f4b :: f2a :: f0a :: bF }) [6] rfl (by kernel_rfl) (by kernel_rfl) ⟨⟨rfl, trivial⟩, trivial⟩ ⟨?_, trivial⟩
       refine cstY rfl rfl rfl ?_
       refine zad 8 (vs := [.string sP, .string sQ]) rfl rfl (fun g2 => ?_)
       refine zaa [] (za2 Tf hf (some ⟨g2, 0, none⟩)) rfl trivial rfl rfl (fun w h => ⟨⟨h.2.2.2.2.2.1.1, ⟨h.1, fun h => (by cases h), Nat.le_refl _, by decide⟩⟩, h.2.1⟩) (fun q _ => ?_) (fun q hq => ?_)
       ·obtain ⟨⟨A1, c1⟩, dn, xvk, xvn, xvs, xvla, xvlc, xvls, xvaa, xvac, xvus⟩ := q
        exact ⟨rfl, rfl⟩
       obtain ⟨⟨A1, c1⟩, dn, xik, xin, xis, xila, xilc, xils, xiaa, xiac, xius⟩ := q
       obtain ⟨hq1, hi⟩ := hq
       have hi : (TT.mk xik xin xis xila xilc xils xiaa xiac xius).tm = cT sQ := hi
       obtain ⟨u0, u1, hdn, hp, hq⟩ := zbi dn hq1
       have hdn : dn = [(sP, u0), (sQ, u1)] := hdn
       subst hdn
       obtain ⟨xpk, xpn, xps, xpla, xplc, xpls, xpaa, xpac, xpus⟩ := u0
       obtain ⟨xqk, xqn, xqs, xqla, xqlc, xqls, xqaa, xqac, xqus⟩ := u1
       let Tp : TT := (TT.mk xpk xpn xps xpla xplc xpls xpaa xpac xpus)
       let Tq : TT := (TT.mk xqk xqn xqs xqla xqlc xqls xqaa xqac xqus)
       let Ti : TT := (TT.mk xik xin xis xila xilc xils xiaa xiac xius)
       let x6 : Nat × SV := (63, .tup [.one (.v (.slice A1 2 c1)), .agg (Ti.cells.map SA.v), .one (.v (.bool true))])
       let m6a : Nat × LB := (8, .dead)
       let f6a : World -> Prop := zax A1 [(sP, Tp), (sQ, Tq)] Ti
       let f6b : World -> Prop := fun w => SlAt w (some ⟨g2, 0, none⟩) [.string sP, .string sQ]
       let x7 : Nat × SV := (56, .tup [.one (.v (.slice A1 2 c1)), .agg (Ti.cells.map SA.v), .one (.v (.bool true))])
       refine zae 7 x7.2 _ (by kernel_rfl) ⟨⟨rfl, trivial⟩, trivial⟩ (by kernel_rfl) rfl rfl rfl ?_
       let x8 : Nat × SV := (64, .one (.v (.slice A1 2 c1)))
       refine zae 8 x8.2 _ (by kernel_rfl) ⟨⟨rfl, trivial⟩, trivial⟩ (by kernel_rfl) rfl rfl rfl ?_
       let x9 : Nat × SV := (65, .agg (Ti.cells.map SA.v))
       refine zae 9 x9.2 _ (by kernel_rfl) ⟨⟨rfl, trivial⟩, trivial⟩ (by kernel_rfl) rfl rfl rfl ?_
       let x10 : Nat × SV := (66, .one (.v (.bool true)))
       refine zae 10 x10.2 _ (by kernel_rfl) ⟨⟨rfl, trivial⟩, trivial⟩ (by kernel_rfl) rfl rfl rfl ?_
       let x12 : Nat × SV := (13, .one (.v (.slice A1 2 c1)))
       refine zae 12 x12.2 _ (by kernel_rfl) ⟨⟨rfl, trivial⟩, trivial⟩ (by kernel_rfl) rfl rfl rfl ?_
       refine zag ({ s := x12 :: x10 :: x9 :: x8 :: x7 :: x6 :: x5 :: x4 :: x11 :: x3 :: x2 :: x0 :: bS, m := m6a :: m5a :: m4a :: m11a :: m3a :: bM, k := 9, f := f6a :: f6b :: f4a :: f4b :: f2a :: f0a :: bF }) [13] rfl (by kernel_rfl) (by kernel_rfl) ⟨⟨rfl, trivial⟩, trivial⟩ ⟨?_, trivial⟩
       refine cstY rfl rfl rfl ?_
       let m13a : Nat × LB := (7, .cells 41 (Ti.cells.map SA.v))
       let x14 : Nat × SV := (15, .one (.v (.bool true)))
       refine zae 14 x14.2 _ (by kernel_rfl) ⟨⟨rfl, trivial⟩, trivial⟩ (by kernel_rfl) rfl rfl rfl ?_
       refine zau _ rfl (by kernel_rfl) ⟨⟨rfl, trivial⟩, trivial⟩ ?_
       exact ⟨((A1, c1), (Tp, Tq), Ti), ⟨hp, hq, hi⟩, (zab [(0, .blk 0), (1, .blk 1), (2, .blk 2), (3, .blk 3), (4, .blk 4), (5, .blk 5), (6, .blk 7)] rfl rfl rfl rfl (leB rfl) ⟨⟨_, rfl, rfl⟩, ⟨_, rfl, rfl⟩, ⟨_, rfl, rfl⟩, ⟨_, rfl, rfl⟩, ⟨_, rfl, rfl⟩, ⟨_, rfl, rfl⟩, ⟨_, rfl, rfl⟩, ⟨_, rfl, rfl⟩, ⟨_, rfl, rfl⟩, ⟨_, rfl, rfl⟩, ⟨_, rfl, rfl⟩, ⟨_, rfl, rfl⟩, ⟨_, rfl, rfl⟩, trivial⟩ ⟨⟨_, rfl, rfl⟩, ⟨_, rfl, rfl⟩, ⟨_, rfl, rfl⟩, ⟨_, rfl, rfl⟩, ⟨_, rfl, rfl⟩, ⟨_, rfl, rfl⟩, ⟨_, rfl, rfl⟩, trivial⟩ ⟨⟨amG.up _, fun w h => h.2.2.2.2.2.2.1⟩, ⟨zax.up _ _ _, fun w h => h.1⟩, trivial⟩)⟩
      ·skip
       refine cstY rfl rfl rfl ?_
       let x5 : Nat × SV := (62, .one (.sl 8 0 2 2))
       let m5a : Nat × LB := (8, .cells 9 [.v (.string sP), .v (.string sQ)])
       refine zag ({ s := x5 :: x11 :: x3 :: x2 :: x0 :: bS, m := m5a :: m11a :: m3a :: bM, k := 9, f := f2a :: f0a :: bF }) [4] rfl (by kernel_rfl) (by kernel_rfl) ⟨⟨rfl, trivial⟩, trivial⟩ ⟨?_, trivial⟩
       refine cstY rfl rfl rfl ?_
       refine zad 6 (vs := (cN sA).cells ++ (vN 0).cells) rfl rfl (fun g => ?_)
       refine zaa [] (za1 (some ⟨g, 0, none⟩)) rfl trivial rfl rfl (fun w h => ⟨zbn h.1 (cNa w) (vN0 w), vN0 w⟩) (fun x _ => ?_) (fun x hx => ?_)
       ·obtain ⟨xvk, xvn, xvs, xvla, xvlc, xvls, xvaa, xvac, xvus⟩ := x
        exact ⟨rfl, rfl⟩
       have hf : x.tm = tO := hx
       obtain ⟨xfk, xfn, xfs, xfla, xflc, xfls, xfaa, xfac, xfus⟩ := x
       let Tf : TT := (TT.mk xfk xfn xfs xfla xflc xfls xfaa xfac xfus)
       let x4 : Nat × SV := (61, ttA Tf)
       let m4a : Nat × LB := (6, .dead)
       let f4a : World -> Prop := fun w => TTIn w Tf
       let f4b : World -> Prop := fun w => SlAt w (some ⟨g, 0, none⟩) ((cN sA).cells ++ (vN 0).cells)
       refine zag ({ s := x4 :: x5 :: x11 :: x3 :: x2 :: x0 :: bS, m := m4a :: m5a :: m11a :: m3a :: bM, k := 9, f := f4a :: f4b :: f2a :: f0a :: bF }) [6] rfl (by kernel_rfl) (by kernel_rfl) ⟨⟨rfl, trivial⟩, trivial⟩ ⟨?_, trivial⟩
       refine cstY rfl rfl rfl ?_
       refine zad 8 (vs := [.string sP, .string sQ]) rfl rfl (fun g2 => ?_)
       refine zaa [] (za2 Tf hf (some ⟨g2, 0, none⟩)) rfl trivial rfl rfl (fun w h => ⟨⟨h.2.2.2.2.2.1.1, ⟨h.1, fun h => (by cases h), Nat.le_refl _, by decide⟩⟩, h.2.1⟩) (fun q _ => ?_) (fun q hq => ?_)
       ·obtain ⟨⟨A1, c1⟩, dn, xvk, xvn, xvs, xvla, xvlc, xvls, xvaa, xvac, xvus⟩ := q
        exact ⟨rfl, rfl⟩
       obtain ⟨⟨A1, c1⟩, dn, xik, xin, xis, xila, xilc, xils, xiaa, xiac, xius⟩ := q
       obtain ⟨hq1, hi⟩ := hq
       have hi : (TT.mk xik xin xis xila xilc xils xiaa xiac xius).tm = cT sQ := hi
       obtain ⟨u0, u1, hdn, hp, hq⟩ := zbi dn hq1
       have hdn : dn = [(sP, u0), (sQ, u1)] := hdn
       subst hdn
       obtain ⟨xpk, xpn, xps, xpla, xplc, xpls, xpaa, xpac, xpus⟩ := u0
       obtain ⟨xqk, xqn, xqs, xqla, xqlc, xqls, xqaa, xqac, xqus⟩ := u1
       let Tp : TT := (TT.mk xpk xpn xps xpla xplc xpls xpaa xpac xpus)
       let Tq : TT := (TT.mk xqk xqn xqs xqla xqlc xqls xqaa xqac xqus)
       let Ti : TT := (TT.mk xik xin xis xila xilc xils xiaa xiac xius)
       let x6 : Nat × SV := (63, .tup [.one (.v (.slice A1 2 c1)), .agg (Ti.cells.map SA.v), .one (.v (.bool true))])
       let m6a : Nat × LB := (8, .dead)
       let f6a : World -> Prop := zax A1 [(sP, Tp), (sQ, Tq)] Ti
       let f6b : World -> Prop := fun w => SlAt w (some ⟨g2, 0, none⟩) [.string sP, .string sQ]
       let x7 : Nat × SV := (56, .tup [.one (.v (.slice A1 2 c1)), .agg (Ti.cells.map SA.v), .one (.v (.bool true))])
       refine zae 7 x7.2 _ (by kernel_rfl) ⟨⟨rfl, trivial⟩, trivial⟩ (by kernel_rfl) rfl rfl rfl ?_
       let x8 : Nat × SV := (64, .one (.v (.slice A1 2 c1)))
       refine zae 8 x8.2 _ (by kernel_rfl) ⟨⟨rfl, trivial⟩, trivial⟩ (by kernel_rfl) rfl rfl rfl ?_
       let x9 : Nat × SV := (65, .agg (Ti.cells.map SA.v))
       refine zae 9 x9.2 _ (by kernel_rfl) ⟨⟨rfl, trivial⟩, trivial⟩ (by kernel_rfl) rfl rfl rfl ?_
       let x10 : Nat × SV := (66, .one (.v (.bool true)))
       refine zae 10 x10.2 _ (by kernel_rfl) ⟨⟨rfl, trivial⟩, trivial⟩ (by kernel_rfl) rfl rfl rfl ?_
       let x12 : Nat × SV := (13, .one (.v (.slice A1 2 c1)))
       refine zae 12 x12.2 _ (by kernel_rfl) ⟨⟨rfl, trivial⟩, trivial⟩ (by kernel_rfl) rfl rfl rfl ?_
       refine zag ({ s := x12 :: x10 :: x9 :: x8 :: x7 :: x6 :: x4 :: x5 :: x11 :: x3 :: x2 :: x0 :: bS, m := m6a :: m4a :: m5a :: m11a :: m3a :: bM, k := 9, f := f6a :: f6b :: f4a :: f4b :: f2a :: f0a :: bF }) [13] rfl (by kernel_rfl) (by kernel_rfl) ⟨⟨rfl, trivial⟩, trivial⟩ ⟨?_, trivial⟩
       refine cstY rfl rfl rfl ?_
       let m13a : Nat × LB := (7, .cells 41 (Ti.cells.map SA.v))
       let x14 : Nat × SV := (15, .one (.v (.bool true)))
       refine zae 14 x14.2 _ (by kernel_rfl) ⟨⟨rfl, trivial⟩, trivial⟩ (by kernel_rfl) rfl rfl rfl ?_
       refine zau _ rfl (by kernel_rfl) ⟨⟨rfl, trivial⟩, trivial⟩ ?_
       exact ⟨((A1, c1), (Tp, Tq), Ti), ⟨hp, hq, hi⟩, (zab [(0, .blk 0), (1, .blk 1), (2, .blk 2), (3, .blk 3), (4, .blk 4), (5, .blk 5), (6, .blk 7)] rfl rfl rfl rfl (leB rfl) ⟨⟨_, rfl, rfl⟩, ⟨_, rfl, rfl⟩, ⟨_, rfl, rfl⟩, ⟨_, rfl, rfl⟩, ⟨_, rfl, rfl⟩, ⟨_, rfl, rfl⟩, ⟨_, rfl, rfl⟩, ⟨_, rfl, rfl⟩, ⟨_, rfl, rfl⟩, ⟨_, rfl, rfl⟩, ⟨_, rfl, rfl⟩, ⟨_, rfl, rfl⟩, ⟨_, rfl, rfl⟩, trivial⟩ ⟨⟨_, rfl, rfl⟩, ⟨_, rfl, rfl⟩, ⟨_, rfl, rfl⟩, ⟨_, rfl, rfl⟩, ⟨_, rfl, rfl⟩, ⟨_, rfl, rfl⟩, ⟨_, rfl, rfl⟩, trivial⟩ ⟨⟨amG.up _, fun w h => h.2.2.2.2.2.2.1⟩, ⟨zax.up _ _ _, fun w h => h.1⟩, trivial⟩)⟩
    ·skip
     refine cstY rfl rfl rfl ?_
     let x5 : Nat × SV := (62, .one (.sl 6 0 2 2))
     let m5a : Nat × LB := (6, .cells 9 [.v (.string sP), .v (.string sQ)])
     refine zag ({ s := x5 :: x2 :: x0 :: bS, m := m5a :: bM, k := 7, f := f2a :: f0a :: bF }) [3, 11] rfl (by kernel_rfl) (by kernel_rfl) ⟨⟨rfl, rfl⟩, trivial⟩ ⟨?_, ?_, trivial⟩
     ·skip
      refine cstY rfl rfl rfl ?_
      let x3 : Nat × SV := (60, .one (.sl 7 0 2 2))
      let m3a : Nat × LB := (7, .cells 41 (((cN sA).cells ++ (vN 0).cells).map SA.v))
      refine zag ({ s := x3 :: x5 :: x2 :: x0 :: bS, m := m3a :: m5a :: bM, k := 8, f := f2a :: f0a :: bF }) [4, 11] rfl (by kernel_rfl) (by kernel_rfl) ⟨⟨rfl, trivial⟩, trivial⟩ ⟨?_, ?_, trivial⟩
      ·skip
       refine cstY rfl rfl rfl ?_
       refine zad 7 (vs := (cN sA).cells ++ (vN 0).cells) rfl rfl (fun g => ?_)
       refine zaa [] (za1 (some ⟨g, 0, none⟩)) rfl trivial rfl rfl (fun w h => ⟨zbn h.1 (cNa w) (vN0 w), vN0 w⟩) (fun x _ => ?_) (fun x hx => ?_)
       ·obtain ⟨xvk, xvn, xvs, xvla, xvlc, xvls, xvaa, xvac, xvus⟩ := x
        exact ⟨rfl, rfl⟩
       have hf : x.tm = tO := hx
       obtain ⟨xfk, xfn, xfs, xfla, xflc, xfls, xfaa, xfac, xfus⟩ := x
       let Tf : TT := (TT.mk xfk xfn xfs xfla xflc xfls xfaa xfac xfus)
       let x4 : Nat × SV := (61, ttA Tf)
       let m4a : Nat × LB := (7, .dead)
       let f4a : World -> Prop := fun w => TTIn w Tf
       let f4b : World -> Prop := fun w => SlAt w (some ⟨g, 0, none⟩) ((cN sA).cells ++ (vN 0).cells)
       refine zag ({ s := x4 :: x3 :: x5 :: x2 :: x0 :: bS, m := m4a :: m3a :: m5a :: bM, k := 8, f := f4a :: f4b :: f2a :: f0a :: bF }) [6, 11] rfl (by kernel_rfl) (by kernel_rfl) ⟨⟨rfl, trivial⟩, trivial⟩ ⟨?_, ?_, trivial⟩
       ·skip
        refine cstY rfl rfl rfl ?_
        refine zad 6 (vs := [.string sP, .string sQ]) rfl rfl (fun g2 => ?_)
        refine zaa [] (za2 Tf hf (some ⟨g2, 0, none⟩)) rfl trivial rfl rfl (fun w h => ⟨⟨h.2.2.2.2.2.1.1, ⟨h.1, fun h => (by cases h), Nat.le_refl _, by decide⟩⟩, h.2.1⟩) (fun q _ => ?_) (fun q hq => ?_)
        ·obtain ⟨⟨A1, c1⟩, dn, xvk, xvn, xvs, xvla, xvlc, xvls, xvaa, xvac, xvus⟩ := q
         exact ⟨rfl, rfl⟩
        obtain ⟨⟨A1, c1⟩, dn, xik, xin, xis, xila, xilc, xils, xiaa, xiac, xius⟩ := q
        obtain ⟨hq1, hi⟩ := hq
        have hi : (TT.mk xik xin xis xila xilc xils xiaa xiac xius).tm = cT sQ := hi
        obtain ⟨u0, u1, hdn, hp, hq⟩ := zbi dn hq1
        have hdn : dn = [(sP, u0), (sQ, u1)] := hdn
        subst hdn
        obtain ⟨xpk, xpn, xps, xpla, xplc, xpls, xpaa, xpac, xpus⟩ := u0
        obtain ⟨xqk, xqn, xqs, xqla, xqlc, xqls, xqaa, xqac, xqus⟩ := u1
        let Tp : TT := (TT.mk xpk xpn xps xpla xplc xpls xpaa xpac xpus)
        let Tq : TT := (TT.mk xqk xqn xqs xqla xqlc xqls xqaa xqac xqus)
        let Ti : TT := (TT.mk xik xin xis xila xilc xils xiaa xiac xius)
        let x6 : Nat × SV := (63, .tup [.one (.v (.slice A1 2 c1)), .agg (Ti.cells.map SA.v), .one (.v (.bool true))])
        let m6a : Nat × LB := (6, .dead)
        let f6a : World -> Prop := zax A1 [(sP, Tp), (sQ, Tq)] Ti
        let f6b : World -> Prop := fun w => SlAt w (some ⟨g2, 0, none⟩) [.string sP, .string sQ]
        let x7 : Nat × SV := (56, .tup [.one (.v (.slice A1 2 c1)), .agg (Ti.cells.map SA.v), .one (.v (.bool true))])
        refine zae 7 x7.2 _ (by kernel_rfl) ⟨⟨rfl, trivial⟩, trivial⟩ (by kernel_rfl) rfl rfl rfl ?_
        let x8 : Nat × SV := (64, .one (.v (.slice A1 2 c1)))
        refine zae 8 x8.2 _ (by kernel_rfl) ⟨⟨rfl, trivial⟩, trivial⟩ (by kernel_rfl) rfl rfl rfl ?_
        let x9 : Nat × SV := (65, .agg (Ti.cells.map SA.v))
        refine zae 9 x9.2 _ (by kernel_rfl) ⟨⟨rfl, trivial⟩, trivial⟩ (by kernel_rfl) rfl rfl rfl ?_
        let x10 : Nat × SV := (66, .one (.v (.bool true)))
        refine zae 10 x10.2 _ (by kernel_rfl) ⟨⟨rfl, trivial⟩, trivial⟩ (by kernel_rfl) rfl rfl rfl ?_
        refine zag ({ s := x10 :: x9 :: x8 :: x7 :: x6 :: x4 :: x3 :: x5 :: x2 :: x0 :: bS, m := m6a :: m4a :: m3a :: m5a :: bM, k := 8, f := f6a :: f6b :: f4a :: f4b :: f2a :: f0a :: bF }) [11] rfl (by kernel_rfl) (by kernel_rfl) ⟨⟨rfl, trivial⟩, trivial⟩ ⟨?_, trivial⟩
        refine cstY rfl rfl rfl ?_
        let x11 : Nat × SV := (14, .one (.p 8 0))
        let m11a : Nat × LB := (8, .cells 41 zan)
        let x12 : Nat × SV := (13, .one (.v (.slice A1 2 c1)))
        refine zae 12 x12.2 _ (by kernel_rfl) ⟨⟨rfl, trivial⟩, trivial⟩ (by kernel_rfl) rfl rfl rfl ?_
        refine zag ({ s := x12 :: x11 :: x10 :: x9 :: x8 :: x7 :: x6 :: x4 :: x3 :: x5 :: x2 :: x0 :: bS, m := m11a :: m6a :: m4a :: m3a :: m5a :: bM, k := 9, f := f6a :: f6b :: f4a :: f4b :: f2a :: f0a :: bF }) [13] rfl (by kernel_rfl) (by kernel_rfl) ⟨⟨rfl, trivial⟩, trivial⟩ ⟨?_, trivial⟩
        refine cstY rfl rfl rfl ?_
        let m13a : Nat × LB := (8, .cells 41 (Ti.cells.map SA.v))
        let x14 : Nat × SV := (15, .one (.v (.bool true)))
        refine zae 14 x14.2 _ (by kernel_rfl) ⟨⟨rfl, trivial⟩, trivial⟩ (by kernel_rfl) rfl rfl rfl ?_
        refine zau _ rfl (by kernel_rfl) ⟨⟨rfl, trivial⟩, trivial⟩ ?_
        exact ⟨((A1, c1), (Tp, Tq), Ti), ⟨hp, hq, hi⟩, (zab [(0, .blk 0), (1, .blk 1), (2, .blk 2), (3, .blk 3), (4, .blk 4), (5, .blk 5), (6, .blk 8)] rfl rfl rfl rfl (leB rfl) ⟨⟨_, rfl, rfl⟩, ⟨_, rfl, rfl⟩, ⟨_, rfl, rfl⟩, ⟨_, rfl, rfl⟩, ⟨_, rfl, rfl⟩, ⟨_, rfl, rfl⟩, ⟨_, rfl, rfl⟩, ⟨_, rfl, rfl⟩, ⟨_, rfl, rfl⟩, ⟨_, rfl, rfl⟩, ⟨_, rfl, rfl⟩, ⟨_, rfl, rfl⟩, ⟨_, rfl, rfl⟩, trivial⟩ ⟨⟨_, rfl, rfl⟩, ⟨_, rfl, rfl⟩, ⟨_, rfl, rfl⟩, ⟨_, rfl, rfl⟩, ⟨_, rfl, rfl⟩, ⟨_, rfl, rfl⟩, ⟨_, rfl, rfl⟩, trivial⟩ ⟨⟨amG.up _, fun w h => h.2.2.2.2.2.2.1⟩, ⟨zax.up _ _ _, fun w h => h.1⟩, trivial⟩)⟩
       ·skip
        refine cstY rfl rfl rfl ?_
        let x11 : Nat × SV := (14, .one (.p 8 0))
        let m11a : Nat × LB := (8, .cells 41 zan)
        refine zag ({ s := x11 :: x4 :: x3 :: x5 :: x2 :: x0 :: bS, m := m11a :: m4a :: m3a :: m5a :: bM, k := 9, f := f4a :: f4b :: f2a :: f0a :: bF }) [6] rfl (by kernel_rfl) (by kernel_rfl) ⟨⟨rfl, trivial⟩, trivial⟩ ⟨?_, trivial⟩
        refine cstY rfl rfl rfl ?_
        refine zad 6 (vs := [.string sP, .string sQ]) rfl rfl (fun g2 => ?_)
        refine zaa [] (za2 Tf hf (some ⟨g2, 0, none⟩)) rfl trivial rfl rfl (fun w h => ⟨⟨h.2.2.2.2.2.1.1, ⟨h.1, fun h => (by cases h), Nat.le_refl _, by decide⟩⟩, h.2.1⟩) (fun q _ => ?_) (fun q hq => ?_)
        ·obtain ⟨⟨A1, c1⟩, dn, xvk, xvn, xvs, xvla, xvlc, xvls, xvaa, xvac, xvus⟩ := q
         exact ⟨rfl, rfl⟩
        obtain ⟨⟨A1, c1⟩, dn, xik, xin, xis, xila, xilc, xils, xiaa, xiac, xius⟩ := q
        obtain ⟨hq1, hi⟩ := hq
        have hi : (TT.mk xik xin xis xila xilc xils xiaa xiac xius).tm = cT sQ := hi
        obtain ⟨u0, u1, hdn, hp, hq⟩ := zbi dn hq1
        have hdn : dn = [(sP, u0), (sQ, u1)] := hdn
        subst hdn
        obtain ⟨xpk, xpn, xps, xpla, xplc, xpls, xpaa, xpac, xpus⟩ := u0
        obtain ⟨xqk, xqn, xqs, xqla, xqlc, xqls, xqaa, xqac, xqus⟩ := u1
        let Tp : TT := (TT.mk xpk xpn xps xpla xplc xpls xpaa xpac xpus)
        let Tq : TT := (TT.mk xqk xqn xqs xqla xqlc xqls xqaa xqac xqus)
        let Ti : TT := (TT.mk xik xin xis xila xilc xils xiaa xiac xius)
        let x6 : Nat × SV := (63, .tup [.one (.v (.slice A1 2 c1)), .agg (Ti.cells.map SA.v), .one (.v (.bool true))])
        let m6a : Nat × LB := (6, .dead)
        let f6a : World -> Prop := zax A1 [(sP, Tp), (sQ, Tq)] Ti
        let f6b : World -> Prop := fun w => SlAt w (some ⟨g2, 0, none⟩) [.string sP, .string sQ]
        let x7 : Nat × SV := (56, .tup [.one (.v (.slice A1 2 c1)), .agg (Ti.cells.map SA.v), .one (.v (.bool true))])
        refine zae 7 x7.2 _ (by kernel_rfl) ⟨⟨rfl, trivial⟩, trivial⟩ (by kernel_rfl) rfl rfl rfl ?_
        let x8 : Nat × SV := (64, .one (.v (.slice A1 2 c1)))
        refine zae 8 x8.2 _ (by kernel_rfl) ⟨⟨rfl, trivial⟩, trivial⟩ (by kernel_rfl) rfl rfl rfl ?_
        let x9 : Nat × SV := (65, .agg (Ti.cells.map SA.v))
        refine zae 9 x9.2 _ (by kernel_rfl) ⟨⟨rfl, trivial⟩, trivial⟩ (by kernel_rfl) rfl rfl rfl ?_
        let x10 : Nat × SV := (66, .one (.v (.bool true)))
        refine zae 10 x10.2 _ (by kernel_rfl) ⟨⟨rfl, trivial⟩, trivial⟩ (by kernel_rfl) rfl rfl rfl ?_
        let x12 : Nat × SV := (13, .one (.v (.slice A1 2 c1)))
        refine zae 12 x12.2 _ (by kernel_rfl) ⟨⟨rfl, trivial⟩, trivial⟩ (by kernel_rfl) rfl rfl rfl ?_
        refine zag ({ s := x12 :: x10 :: x9 :: x8 :: x7 :: x6 :: x11 :: x4 :: x3 :: x5 :: x2 :: x0 :: bS, m := m6a :: m11a :: m4a :: m3a :: m5a :: bM, k := 9, f := f6a :: f6b :: f4a :: f4b :: f2a :: f0a :: bF }) [13] rfl (by kernel_rfl) (by kernel_rfl) ⟨⟨rfl, trivial⟩, trivial⟩ ⟨?_, trivial⟩
        refine cstY rfl rfl rfl ?_
        let m13a : Nat × LB := (8, .cells 41 (Ti.cells.map SA.v))
        let x14 : Nat × SV := (15, .one (.v (.bool true)))
        refine zae 14 x14.2 _ (by kernel_rfl) ⟨⟨rfl, trivial⟩, trivial⟩ (by kernel_rfl) rfl rfl rfl ?_
        refine zau _ rfl (by kernel_rfl) ⟨⟨rfl, trivial⟩, trivial⟩ ?_
        exact ⟨((A1, c1), (Tp, Tq), Ti), ⟨hp, hq, hi⟩, (zab [(0, .blk 0), (1, .blk 1), (2, .blk 2), (3, .blk 3), (4, .blk 4), (5, .blk 5), (6, .blk 8)] rfl rfl rfl rfl (leB rfl) ⟨⟨_, rfl, rfl⟩, ⟨_, rfl, rfl⟩, ⟨_, rfl, rfl⟩, ⟨_, rfl, rfl⟩, ⟨_, rfl, rfl⟩, ⟨_, rfl, rfl⟩, ⟨_, rfl, rfl⟩, ⟨_, rfl, rfl⟩, ⟨_, rfl, rfl⟩, ⟨_, rfl, rfl⟩, ⟨_, rfl, rfl⟩, ⟨_, rfl, rfl⟩, ⟨_, rfl, rfl⟩, trivial⟩ ⟨⟨_, rfl, rfl⟩, ⟨_, rfl, rfl⟩, ⟨_, rfl, rfl⟩, ⟨_, rfl, rfl⟩, ⟨_, rfl, rfl⟩, ⟨_, rfl, rfl⟩, ⟨_, rfl, rfl⟩, trivial⟩ ⟨⟨amG.up _, fun w h => h.2.2.2.2.2.2.1⟩, ⟨zax.up _ _ _, fun w h => h.1⟩, trivial⟩)⟩
      ·skip
       refine cstY rfl rfl rfl ?_
       let x11 : Nat × SV := (14, .one (.p 8 0))
       let m11a : Nat × LB := (8, .cells 41 zan)
       refine zag ({ s := x11 :: x3 :: x5 :: x2 :: x0 :: bS, m := m11a :: m3a :: m5a :: bM, k := 9, f := f2a :: f0a :: bF }) [4] rfl (by kernel_rfl) (by kernel_rfl) ⟨⟨rfl, trivial⟩, trivial⟩ ⟨?_, trivial⟩
       refine cstY rfl rfl rfl ?_
       refine zad 7 (vs := (cN sA).cells ++ (vN 0).cells) rfl rfl (fun g => ?_)
       refine zaa [] (za1 (some ⟨g, 0, none⟩)) rfl trivial rfl rfl (fun w h => ⟨zbn h.1 (cNa w) (vN0 w), vN0 w⟩) (fun x _ => ?_) (fun x hx => ?_)
       ·obtain ⟨xvk, xvn, xvs, xvla, xvlc, xvls, xvaa, xvac, xvus⟩ := x
        exact ⟨rfl, rfl⟩
       have hf : x.tm = tO := hx
       obtain ⟨xfk, xfn, xfs, xfla, xflc, xfls, xfaa, xfac, xfus⟩ := x
       let Tf : TT := (TT.mk xfk xfn xfs xfla xflc xfls xfaa xfac xfus)
       let x4 : Nat × SV := (61, ttA Tf)
       let m4a : Nat × LB := (7, .dead)
       let f4a : World -> Prop := fun w => TTIn w Tf
       let f4b : World -> Prop := fun w => SlAt w (some ⟨g, 0, none⟩) ((cN sA).cells ++ (vN 0).cells)
       refine zag ({ s := x4 :: x11 :: x3 :: x5 :: x2 :: x0 :: bS, m := m4a :: m11a :: m3a :: m5a :: bM, k := 9, f := f4a :: f4b :: f2a :: f0a :: bF }) [6] rfl (by kernel_rfl) (by kernel_rfl) ⟨⟨rfl, trivial⟩, trivial⟩ ⟨?_, trivial⟩
       refine cstY rfl rfl rfl ?_
       refine zad 6 (vs := [.string sP, .string sQ]) rfl rfl (fun g2 => ?_)
       refine zaa [] (za2 Tf hf (some ⟨g2, 0, none⟩)) rfl trivial rfl rfl (fun w h => ⟨⟨h.2.2.2.2.2.1.1, ⟨h.1, fun h => (by cases h), Nat.le_refl _, by decide⟩⟩, h.2.1⟩) (fun q _ => ?_) (fun q hq => ?_)
       ·obtain ⟨⟨A1, c1⟩, dn, xvk, xvn, xvs, xvla, xvlc, xvls, xvaa, xvac, xvus⟩ := q
        exact ⟨rfl, rfl⟩
       obtain ⟨⟨A1, c1⟩, dn, xik, xin, xis, xila, xilc, xils, xiaa, xiac, xius⟩ := q
       obtain ⟨hq1, hi⟩ := hq
       have hi : (TT.mk xik xin xis xila xilc xils xiaa xiac xius).tm = cT sQ := hi
       obtain ⟨u0, u1, hdn, hp, hq⟩ := zbi dn hq1
       have hdn : dn = [(sP, u0), (sQ, u1)] := hdn
       subst hdn
       obtain ⟨xpk, xpn, xps, xpla, xplc, xpls, xpaa, xpac, xpus⟩ := u0
       obtain ⟨xqk, xqn, xqs, xqla, xqlc, xqls, xqaa, xqac, xqus⟩ := u1
       let Tp : TT := (TT.mk xpk xpn xps xpla xplc xpls xpaa xpac xpus)
       let Tq : TT := (TT.mk xqk xqn xqs xqla xqlc xqls xqaa xqac xqus)
       let Ti : TT := (TT.mk xik xin xis xila xilc xils xiaa xiac xius)
       let x6 : Nat × SV := (63, .tup [.one (.v (.slice A1 2 c1)), .agg (Ti.cells.map SA.v), .one (.v (.bool true))])
       let m6a : Nat × LB := (6, .dead)
       let f6a : World -> Prop := zax A1 [(sP, Tp), (sQ, Tq)] Ti
       let f6b : World -> Prop := fun w => SlAt w (some ⟨g2, 0, none⟩) [.string sP, .string sQ]
       let x7 : Nat × SV := (56, .tup [.one (.v (.slice A1 2 c1)), .agg (Ti.cells.map SA.v), .one (.v (.bool true))])
       refine zae 7 x7.2 _ (by kernel_rfl) ⟨⟨rfl, trivial⟩, trivial⟩ (by kernel_rfl) rfl rfl rfl ?_
       let x8 : Nat × SV := (64, .one (.v (.slice A1 2 c1)))
       refine zae 8 x8.2 _ (by kernel_rfl) ⟨⟨rfl, trivial⟩, trivial⟩ (by kernel_rfl) rfl rfl rfl ?_
       let x9 : Nat × SV := (65, .agg (Ti.cells.map SA.v))
       refine zae 9 x9.2 _ (by kernel_rfl) ⟨⟨rfl, trivial⟩, trivial⟩ (by kernel_rfl) rfl rfl rfl ?_
       let x10 : Nat × SV := (66, .one (.v (.bool true)))
       refine zae 10 x10.2 _ (by kernel_rfl) ⟨⟨rfl, trivial⟩, trivial⟩ (by kernel_rfl) rfl rfl rfl ?_
       let x12 : Nat × SV := (13, .one (.v (.slice A1 2 c1)))
       refine zae 12 x12.2 _ (by kernel_rfl) ⟨⟨rfl, trivial⟩, trivial⟩ (by kernel_rfl) rfl rfl rfl ?_
       refine zag ({ s := x12 :: x10 :: x9 :: x8 :: x7 :: x6 :: x4 :: x11 :: x3 :: x5 :: x2 :: x0 :: bS, m := m6a :: m4a :: m11a :: m3a :: m5a :: bM, k := 9, f := f6a :: f6b :: f4a :: f4b :: f2a :: f0a :: bF }) [13] rfl (by kernel_rfl) (by kernel_rfl) ⟨⟨rfl, trivial⟩, trivial⟩ ⟨?_, trivial⟩
       refine cstY rfl rfl rfl ?_
       let m13a : Nat × LB := (8, .cells 41 (Ti.cells.map SA.v))
       let x14 : Nat × SV := (15, .one (.v (.bool true)))
       refine zae 14 x14.2 _ (by kernel_rfl) ⟨⟨rfl, trivial⟩, trivial⟩ (by kernel_rfl) rfl rfl rfl ?_
       refine zau _ rfl (by kernel_rfl) ⟨⟨rfl, trivial⟩, trivial⟩ ?_
       exact ⟨((A1, c1), (Tp, Tq), Ti), ⟨hp, hq, hi⟩, (zab [(0, .blk 0), (1, .blk 1), (2, .blk 2), (3, .blk 3), (4, .blk 4), (5, .blk 5), (6, .blk 8)] rfl rfl rfl rfl (leB rfl) ⟨⟨_, rfl, rfl⟩, ⟨_, rfl, rfl⟩, ⟨_, rfl, rfl⟩, ⟨_, rfl, rfl⟩, ⟨_, rfl, rfl⟩, ⟨_, rfl, rfl⟩, ⟨_, rfl, rfl⟩, ⟨_, rfl, rfl⟩, ⟨_, rfl, rfl⟩, ⟨_, rfl, rfl⟩, ⟨_, rfl, rfl⟩, ⟨_, rfl, rfl⟩, ⟨_, rfl, rfl⟩, trivial⟩ ⟨⟨_, rfl, rfl⟩, ⟨_, rfl, rfl⟩, ⟨_, rfl, rfl⟩, ⟨_, rfl, rfl⟩, ⟨_, rfl, rfl⟩, ⟨_, rfl, rfl⟩, ⟨_, rfl, rfl⟩, trivial⟩ ⟨⟨amG.up _, fun w h => h.2.2.2.2.2.2.1⟩, ⟨zax.up _ _ _, fun w h => h.1⟩, trivial⟩)⟩
     ·skip
      refine cstY rfl rfl rfl ?_
      let x11 : Nat × SV := (14, .one (.p 7 0))
      let m11a : Nat × LB := (7, .cells 41 zan)
      refine zag ({ s := x11 :: x5 :: x2 :: x0 :: bS, m := m11a :: m5a :: bM, k := 8, f := f2a :: f0a :: bF }) [3] rfl (by kernel_rfl) (by kernel_rfl) ⟨⟨rfl, rfl⟩, trivial⟩ ⟨?_, trivial⟩
      refine cstY rfl rfl rfl ?_
      let x3 : Nat × SV := (60, .one (.sl 8 0 2 2))
      let m3a : Nat × LB := (8, .cells 41 (((cN sA).cells ++ (vN 0).cells).map SA.v))
      refine zag ({ s := x3 :: x11 :: x5 :: x2 :: x0 :: bS, m := m3a :: m11a :: m5a :: bM, k := 9, f := f2a :: f0a :: bF }) [4] rfl (by kernel_rfl) (by kernel_rfl) ⟨⟨rfl, trivial⟩, trivial⟩ ⟨?_, trivial⟩
      refine cstY rfl rfl rfl ?_
      refine zad 8 (vs := (cN sA).cells ++ (vN 0).cells) rfl rfl (fun g => ?_)
      refine zaa [] (za1 (some ⟨g, 0, none⟩)) rfl trivial rfl rfl (fun w h => ⟨zbn h.1 (cNa w) (vN0 w), vN0 w⟩) (fun x _ => ?_) (fun x hx => ?_)
      ·obtain ⟨xvk, xvn, xvs, xvla, xvlc, xvls, xvaa, xvac, xvus⟩ := x
       exact ⟨rfl, rfl⟩
      have hf : x.tm = tO := hx
      obtain ⟨xfk, xfn, xfs, xfla, xflc, xfls, xfaa, xfac, xfus⟩ := x
      let Tf : TT := (TT.mk xfk xfn xfs xfla xflc xfls xfaa xfac xfus)
      let x4 : Nat × SV := (61, ttA Tf)
      let m4a : Nat × LB := (8, .dead)
      let f4a : World -> Prop := fun w => TTIn w Tf
      let f4b : World -> Prop := fun w => SlAt w (some ⟨g, 0, none⟩) ((cN sA).cells ++ (vN 0).cells)
      refine zag ({ s := x4 :: x3 :: x11 :: x5 :: x2 :: x0 :: bS, m := m4a :: m3a :: m11a :: m5a :: bM, k := 9, f := f4a :: f4b :: f2a :: f0a :: bF }) [6] rfl (by kernel_rfl) (by kernel_rfl) ⟨⟨rfl, trivial⟩, trivial⟩ ⟨?_, trivial⟩
      refine cstY rfl rfl rfl ?_
      refine zad 6 (vs := [.string sP, .string sQ]) rfl rfl (fun g2 => ?_)
      refine zaa [] (za2 Tf hf (some ⟨g2, 0, none⟩)) rfl trivial rfl rfl (fun w h => ⟨⟨h.2.2.2.2.2.1.1, ⟨h.1, fun h => (by cases h), Nat.le_refl _, by decide⟩⟩, h.2.1⟩) (fun q _ => ?_) (fun q hq => ?_)
      ·obtain ⟨⟨A1, c1⟩, dn, xvk, xvn, xvs, xvla, xvlc, xvls, xvaa, xvac, xvus⟩ := q
       exact ⟨rfl, rfl⟩
      obtain ⟨⟨A1, c1⟩, dn, xik, xin, xis, xila, xilc, xils, xiaa, xiac, xius⟩ := q
      obtain ⟨hq1, hi⟩ := hq
      have hi : (TT.mk xik xin xis xila xilc xils xiaa xiac xius).tm = cT sQ := hi
      obtain ⟨u0, u1, hdn, hp, hq⟩ := zbi dn hq1
      have hdn : dn = [(sP, u0), (sQ, u1)] := hdn
      subst hdn
      obtain ⟨xpk, xpn, xps, xpla, xplc, xpls, xpaa, xpac, xpus⟩ := u0
      obtain ⟨xqk, xqn, xqs, xqla, xqlc, xqls, xqaa, xqac, xqus⟩ := u1
      let Tp : TT := (TT.mk xpk xpn xps xpla xplc xpls xpaa xpac xpus)
      let Tq : TT := (TT.mk xqk xqn xqs xqla xqlc xqls xqaa xqac xqus)
      let Ti : TT := (TT.mk xik xin xis xila xilc xils xiaa xiac xius)
      let x6 : Nat × SV := (63, .tup [.one (.v (.slice A1 2 c1)), .agg (Ti.cells.map SA.v), .one (.v (.bool true))])
      let m6a : Nat × LB := (6, .dead)
      let f6a : World -> Prop := zax A1 [(sP, Tp), (sQ, Tq)] Ti
      let f6b : World -> Prop := fun w => SlAt w (some ⟨g2, 0, none⟩) [.string sP, .string sQ]
      let x7 : Nat × SV := (56, .tup [.one (.v (.slice A1 2 c1)), .agg (Ti.cells.map SA.v), .one (.v (.bool true))])
      refine zae 7 x7.2 _ (by kernel_rfl) ⟨⟨rfl, trivial⟩, trivial⟩ (by kernel_rfl) rfl rfl rfl ?_
      let x8 : Nat × SV := (64, .one (.v (.slice A1 2 c1)))
      refine zae 8 x8.2 _ (by kernel_rfl) ⟨⟨rfl, trivial⟩, trivial⟩ (by kernel_rfl) rfl rfl rfl ?_
      let x9 : Nat × SV := (65, .agg (Ti.cells.map SA.v))
      refine zae 9 x9.2 _ (by kernel_rfl) ⟨⟨rfl, trivial⟩, trivial⟩ (by kernel_rfl) rfl rfl rfl ?_
      let x10 : Nat × SV := (66, .one (.v (.bool true)))
      refine zae 10 x10.2 _ (by kernel_rfl) ⟨⟨rfl, trivial⟩, trivial⟩ (by kernel_rfl) rfl rfl rfl ?_
      let x12 : Nat × SV := (13, .one (.v (.slice A1 2 c1)))
      refine zae 12 x12.2 _ (by kernel_rfl) ⟨⟨rfl, trivial⟩, trivial⟩ (by kernel_rfl) rfl rfl rfl ?_
      refine zag ({ s := x12 :: x10 :: x9 :: x8 :: x7 :: x6 :: x4 :: x3 :: x11 :: x5 :: x2 :: x0 :: bS, m := m6a :: m4a :: m3a :: m11a :: m5a :: bM, k := 9, f := f6a :: f6b :: f4a :: f4b :: f2a :: f0a :: bF }) [13] rfl (by kernel_rfl) (by kernel_rfl) ⟨⟨rfl, trivial⟩, trivial⟩ ⟨?_, trivial⟩
      refine cstY rfl rfl rfl ?_
      let m13a : Nat × LB := (7, .cells 41 (Ti.cells.map SA.v))
      let x14 : Nat × SV := (15, .one (.v (.bool true)))
      refine zae 14 x14.2 _ (by kernel_rfl) ⟨⟨rfl, trivial⟩, trivial⟩ (by kernel_rfl) rfl rfl rfl ?_
      refine zau _ rfl (by kernel_rfl) ⟨⟨rfl, trivial⟩, trivial⟩ ?_
      exact ⟨((A1, c1), (Tp, Tq), Ti), ⟨hp, hq, hi⟩, (zab [(0, .blk 0), (1, .blk 1), (2, .blk 2), (3, .blk 3), (4, .blk 4), (5, .blk 5), (6, .blk 7)] rfl rfl rfl rfl (leB rfl) ⟨⟨_, rfl, rfl⟩, ⟨_, rfl, rfl⟩, ⟨_, rfl, rfl⟩, ⟨_, rfl, rfl⟩, ⟨_, rfl, rfl⟩, ⟨_, rfl, rfl⟩, ⟨_, rfl, rfl⟩, ⟨_, rfl, rfl⟩, ⟨_, rfl, rfl⟩, ⟨_, rfl, rfl⟩, ⟨_, rfl, rfl⟩, ⟨_, rfl, rfl⟩, ⟨_, rfl, rfl⟩, trivial⟩ ⟨⟨_, rfl, rfl⟩, ⟨_, rfl, rfl⟩, ⟨_, rfl, rfl⟩, ⟨_, rfl, rfl⟩, ⟨_, rfl, rfl⟩, ⟨_, rfl, rfl⟩, ⟨_, rfl, rfl⟩, trivial⟩ ⟨⟨amG.up _, fun w h => h.2.2.2.2.2.2.1⟩, ⟨zax.up _ _ _, fun w h => h.1⟩, trivial⟩)⟩
    ·skip
     refine cstY rfl rfl rfl ?_
     let x11 : Nat × SV := (14, .one (.p 6 0))
     let m11a : Nat × LB := (6, .cells 41 zan)
     refine zag ({ s := x11 :: x2 :: x0 :: bS, m := m11a :: bM, k := 7, f := f2a :: f0a :: bF }) [3, 5] rfl (by kernel_rfl) (by kernel_rfl) ⟨⟨rfl, rfl⟩, trivial⟩ ⟨?_, ?_, trivial⟩
     ·skip
      refine cstY rfl rfl rfl ?_
      let x3 : Nat × SV := (60, .one (.sl 7 0 2 2))
      let m3a : Nat × LB := (7, .cells 41 (((cN sA).cells ++ (vN 0).cells).map SA.v))
      refine zag ({ s := x3 :: x11 :: x2 :: x0 :: bS, m := m3a :: m11a :: bM, k := 8, f := f2a :: f0a :: bF }) [4, 5] rfl (by kernel_rfl) (by kernel_rfl) ⟨⟨rfl, trivial⟩, trivial⟩ ⟨?_, ?_, trivial⟩
      ·skip
       refine cstY rfl rfl rfl ?_
       refine zad 7 (vs := (cN sA).cells ++ (vN 0).cells) rfl rfl (fun g => ?_)
       refine zaa [] (za1 (some ⟨g, 0, none⟩)) rfl trivial rfl rfl (fun w h => ⟨zbn h.1 (cNa w) (vN0 w), vN0 w⟩) (fun x _ => ?_) (fun x hx => ?_)
       ·obtain ⟨xvk, xvn, xvs, xvla, xvlc, xvls, xvaa, xvac, xvus⟩ := x
        exact ⟨rfl, rfl⟩
       have hf : x.tm = tO := hx
       obtain ⟨xfk, xfn, xfs, xfla, xflc, xfls, xfaa, xfac, xfus⟩ := x
       let Tf : TT := (TT.mk xfk xfn xfs xfla xflc xfls xfaa xfac xfus)
       let x4 : Nat × SV := (61, ttA Tf)
       let m4a : Nat × LB := (7, .dead)
       let f4a : World -> Prop := fun w => TTIn w Tf
       let f4b : World -> Prop := fun w => SlAt w (some ⟨g, 0, none⟩) ((cN sA).cells ++ (vN 0).cells)
       refine zag ({ s := x4 :: x3 :: x11 :: x2 :: x0 :: bS, m := m4a :: m3a :: m11a :: bM, k := 8, f := f4a :: f4b :: f2a :: f0a :: bF }) [5] rfl (by kernel_rfl) (by kernel_rfl) ⟨⟨rfl, trivial⟩, trivial⟩ ⟨?_, trivial⟩
       refine cstY rfl rfl rfl ?_
       let x5 : Nat × SV := (62, .one (.sl 8 0 2 2))
       let m5a : Nat × LB := (8, .cells 9 [.v (.string sP), .v (.string sQ)])
       refine zag ({ s := x5 :: x4 :: x3 :: x11 :: x2 :: x0 :: bS, m := m5a :: m4a :: m3a :: m11a :: bM, k := 9, f := f4a :: f4b :: f2a :: f0a :: bF }) [6] rfl (by kernel_rfl) (by kernel_rfl) ⟨⟨rfl, trivial⟩, trivial⟩ ⟨?_, trivial⟩
       refine cstY rfl rfl rfl ?_
       refine zad 8 (vs := [.string sP, .string sQ]) rfl rfl (fun g2 => ?_)
       refine zaa [] (za2 Tf hf (some ⟨g2, 0, none⟩)) rfl trivial rfl rfl (fun w h => ⟨⟨h.2.2.2.2.2.1.1, ⟨h.1, fun h => (by cases h), Nat.le_refl _, by decide⟩⟩, h.2.1⟩) (fun q _ => ?_) (fun q hq => ?_)
       ·obtain ⟨⟨A1, c1⟩, dn, xvk, xvn, xvs, xvla, xvlc, xvls, xvaa, xvac, xvus⟩ := q
        exact ⟨rfl, rfl⟩
       obtain ⟨⟨A1, c1⟩, dn, xik, xin, xis, xila, xilc, xils, xiaa, xiac, xius⟩ := q
       obtain ⟨hq1, hi⟩ := hq
       have hi : (TT.mk xik xin xis xila xilc xils xiaa xiac xius).tm = cT sQ := hi
       obtain ⟨u0, u1, hdn, hp, hq⟩ := zbi dn hq1
       have hdn : dn = [(sP, u0), (sQ, u1)] := hdn
       subst hdn
       obtain ⟨xpk, xpn, xps, xpla, xplc, xpls, xpaa, xpac, xpus⟩ := u0
       obtain ⟨xqk, xqn, xqs, xqla, xqlc, xqls, xqaa, xqac, xqus⟩ := u1
       let Tp : TT := (TT.mk xpk xpn xps xpla xplc xpls xpaa xpac xpus)
       let Tq : TT := (TT.mk xqk xqn xqs xqla xqlc xqls xqaa xqac xqus)
       let Ti : TT := (TT.mk xik xin xis xila xilc xils xiaa xiac xius)
       let x6 : Nat × SV := (63, .tup [.one (.v (.slice A1 2 c1)), .agg (Ti.cells.map SA.v), .one (.v (.bool true))])
       let m6a : Nat × LB := (8, .dead)
       let f6a : World -> Prop := zax A1 [(sP, Tp), (sQ, Tq)] Ti
       let f6b : World -> Prop := fun w => SlAt w (some ⟨g2, 0, none⟩) [.string sP, .string sQ]
       let x7 : Nat × SV := (56, .tup [.one (.v (.slice A1 2 c1)), .agg (Ti.cells.map SA.v), .one (.v (.bool true))])
       refine zae 7 x7.2 _ (by kernel_rfl) ⟨⟨rfl, trivial⟩, trivial⟩ (by kernel_rfl) rfl rfl rfl ?_
       let x8 : Nat × SV := (64, .one (.v (.slice A1 2 c1)))
       refine zae 8 x8.2 _ (by kernel_rfl) ⟨⟨rfl, trivial⟩, trivial⟩ (by kernel_rfl) rfl rfl rfl ?_
       let x9 : Nat × SV := (65, .agg (Ti.cells.map SA.v))
       refine zae 9 x9.2 _ (by kernel_rfl) ⟨⟨rfl, trivial⟩, trivial⟩ (by kernel_rfl) rfl rfl rfl ?_
       let x10 : Nat × SV := (66, .one (.v (.bool true)))
       refine zae 10 x10.2 _ (by kernel_rfl) ⟨⟨rfl, trivial⟩, trivial⟩ (by kernel_rfl) rfl rfl rfl ?_
       let x12 : Nat × SV := (13, .one (.v (.slice A1 2 c1)))
       refine zae 12 x12.2 _ (by kernel_rfl) ⟨⟨rfl, trivial⟩, trivial⟩ (by kernel_rfl) rfl rfl rfl ?_
       refine zag ({ s := x12 :: x10 :: x9 :: x8 :: x7 :: x6 :: x5 :: x4 :: x3 :: x11 :: x2 :: x0 :: bS, m := m6a :: m5a :: m4a :: m3a :: m11a :: bM, k := 9, f := f6a :: f6b :: f4a :: f4b :: f2a :: f0a :: bF }) [13] rfl (by kernel_rfl) (by kernel_rfl) ⟨⟨rfl, trivial⟩, trivial⟩ ⟨?_, trivial⟩
       refine cstY rfl rfl rfl ?_
       let m13a : Nat × LB := (6, .cells 41 (Ti.cells.map SA.v))
       let x14 : Nat × SV := (15, .one (.v (.bool true)))
       refine zae 14 x14.2 _ (by kernel_rfl) ⟨⟨rfl, trivial⟩, trivial⟩ (by kernel_rfl) rfl rfl rfl ?_
       refine zau _ rfl (by kernel_rfl) ⟨⟨rfl, trivial⟩, trivial⟩ ?_
       exact ⟨((A1, c1), (Tp, Tq), Ti), ⟨hp, hq, hi⟩, (zab [(0, .blk 0), (1, .blk 1), (2, .blk 2), (3, .blk 3), (4, .blk 4), (5, .blk 5), (6, .blk 6)] rfl rfl rfl rfl (leB rfl) ⟨⟨_, rfl, rfl⟩, ⟨_, rfl, rfl⟩, ⟨_, rfl, rfl⟩, ⟨_, rfl, rfl⟩, ⟨_, rfl, rfl⟩, ⟨_, rfl, rfl⟩, ⟨_, rfl, rfl⟩, ⟨_, rfl, rfl⟩, ⟨_, rfl, rfl⟩, ⟨_, rfl, rfl⟩, ⟨_, rfl, rfl⟩, ⟨_, rfl, rfl⟩, ⟨_, rfl, rfl⟩, trivial⟩ ⟨⟨_, rfl, rfl⟩, ⟨_, rfl, rfl⟩, ⟨_, rfl, rfl⟩, ⟨_, rfl, rfl⟩, ⟨_, rfl, rfl⟩, ⟨_, rfl, rfl⟩, ⟨_, rfl, rfl⟩, trivial⟩ ⟨⟨amG.up _, fun w h => h.2.2.2.2.2.2.1⟩, ⟨zax.up _ _ _, fun w h => h.1⟩, trivial⟩)⟩
      ·skip
       refine cstY rfl rfl rfl ?_
       let x5 : Nat × SV := (62, .one (.sl 8 0 2 2))
       let m5a : Nat × LB := (8, .cells 9 [.v (.string sP), .v (.string sQ)])
       refine zag ({ s := x5 :: x3 :: x11 :: x2 :: x0 :: bS, m := m5a :: m3a :: m11a :: bM, k := 9, f := f2a :: f0a :: bF }) [4] rfl (by kernel_rfl) (by kernel_rfl) ⟨⟨rfl, trivial⟩, trivial⟩ ⟨?_, trivial⟩
       refine cstY rfl rfl rfl ?_
       refine zad 7 (vs := (cN sA).cells ++ (vN 0).cells) rfl rfl (fun g => ?_)
       refine zaa [] (za1 (some ⟨g, 0, none⟩)) rfl trivial rfl rfl (fun w h => ⟨zbn h.1 (cNa w) (vN0 w), vN0 w⟩) (fun x _ => ?_) (fun x hx => ?_)
       ·obtain ⟨xvk, xvn, xvs, xvla, xvlc, xvls, xvaa, xvac, xvus⟩ := x
        exact ⟨rfl, rfl⟩
       have hf : x.tm = tO := hx
       obtain ⟨xfk, xfn, xfs, xfla, xflc, xfls, xfaa, xfac, xfus⟩ := x
       let Tf : TT := (TT.mk xfk xfn xfs xfla xflc xfls xfaa xfac xfus)
       let x4 : Nat × SV := (61, ttA Tf)
       let m4a : Nat × LB := (7, .dead)
       let f4a : World -> Prop := fun w => TTIn w Tf
       let f4b : World -> Prop := fun w => SlAt w (some ⟨g, 0, none⟩) ((cN sA).cells ++ (vN 0).cells)
       refine zag ({ s := x4 :: x5 :: x3 :: x11 :: x2 :: x0 :: bS, m := m4a :: m5a :: m3a :: m11a :: bM, k := 9, f := f4a :: f4b :: f2a :: f0a :: bF }) [6] rfl (by kernel_rfl) (by kernel_rfl) ⟨⟨rfl, trivial⟩, trivial⟩ ⟨?_, trivial⟩
       refine cstY rfl rfl rfl ?_
       refine zad 8 (vs := [.string sP, .string sQ]) rfl rfl (fun g2 => ?_)
       refine zaa [] (za2 Tf hf (some ⟨g2, 0, none⟩)) rfl trivial rfl rfl (fun w h => ⟨⟨h.2.2.2.2.2.1.1, ⟨h.1, fun h => (by cases h), Nat.le_refl _, by decide⟩⟩, h.2.1⟩) (fun q _ => ?_) (fun q hq => ?_)
       ·obtain ⟨⟨A1, c1⟩, dn, xvk, xvn, xvs, xvla, xvlc, xvls, xvaa, xvac, xvus⟩ := q
        exact ⟨rfl, rfl⟩
       obtain ⟨⟨A1, c1⟩, dn, xik, xin, xis, xila, xilc, xils, xiaa, xiac, xius⟩ := q
       obtain ⟨hq1, hi⟩ := hq
       have hi : (TT.mk xik xin xis xila xilc xils xiaa xiac xius).tm = cT sQ := hi
       obtain ⟨u0, u1, hdn, hp, hq⟩ := zbi dn hq1
       have hdn : dn = [(sP, u0), (sQ, u1)] := hdn
       subst hdn
       obtain ⟨xpk, xpn, xps, xpla, xplc, xpls, xpaa, xpac, xpus⟩ := u0
       obtain ⟨xqk, xqn, xqs, xqla, xqlc, xqls, xqaa, xqac, xqus⟩ := u1
       let Tp : TT := (TT.mk xpk xpn xps xpla xplc xpls xpaa xpac xpus)
       let Tq : TT := (TT.mk xqk xqn xqs xqla xqlc xqls xqaa xqac xqus)
       let Ti : TT := (TT.mk xik xin xis xila xilc xils xiaa xiac xius)
       let x6 : Nat × SV := (63, .tup [.one (.v (.slice A1 2 c1)), .agg (Ti.cells.map SA.v), .one (.v (.bool true))])
       let m6a : Nat × LB := (8, .dead)
       let f6a : World -> Prop := zax A1 [(sP, Tp), (sQ, Tq)] Ti
       let f6b : World -> Prop := fun w => SlAt w (some ⟨g2, 0, none⟩) [.string sP, .string sQ]
       let x7 : Nat × SV := (56, .tup [.one (.v (.slice A1 2 c1)), .agg (Ti.cells.map SA.v), .one (.v (.bool true))])
       refine zae 7 x7.2 _ (by kernel_rfl) ⟨⟨rfl, trivial⟩, trivial⟩ (by kernel_rfl) rfl rfl rfl ?_
       let x8 : Nat × SV := (64, .one (.v (.slice A1 2 c1)))
       refine zae 8 x8.2 _ (by kernel_rfl) ⟨⟨rfl, trivial⟩, trivial⟩ (by kernel_rfl) rfl rfl rfl ?_
       let x9 : Nat × SV := (65, .agg (Ti.cells.map SA.v))
       refine zae 9 x9.2 _ (by kernel_rfl) ⟨⟨rfl, trivial⟩, trivial⟩ (by kernel_rfl) rfl rfl rfl ?_
       let x10 : Nat × SV := (66, .one (.v (.bool true)))
       refine zae 10 x10.2 _ (by kernel_rfl) ⟨⟨rfl, trivial⟩, trivial⟩ (by kernel_rfl) rfl rfl rfl ?_
       let x12 : Nat × SV := (13, .one (.v (.slice A1 2 c1)))
       refine zae 12 x12.2 _ (by kernel_rfl) ⟨⟨rfl, trivial⟩, trivial⟩ (by kernel_rfl) rfl rfl rfl ?_
       refine zag ({ s := x12 :: x10 :: x9 :: x8 :: x7 :: x6 :: x4 :: x5 :: x3 :: x11 :: x2 :: x0 :: bS, m := m6a :: m4a :: m5a :: m3a :: m11a :: bM, k := 9, f := f6a :: f6b :: f4a :: f4b :: f2a :: f0a :: bF }) [13] rfl (by kernel_rfl) (by kernel_rfl) ⟨⟨rfl, trivial⟩, trivial⟩ ⟨?_, trivial⟩
       refine cstY rfl rfl rfl ?_
       let m13a : Nat × LB := (6, .cells 41 (Ti.cells.map SA.v))
       let x14 : Nat × SV := (15, .one (.v (.bool true)))
       refine zae 14 x14.2 _ (by kernel_rfl) ⟨⟨rfl, trivial⟩, trivial⟩ (by kernel_rfl) rfl rfl rfl ?_
       refine zau _ rfl (by kernel_rfl) ⟨⟨rfl, trivial⟩, trivial⟩ ?_
       exact ⟨((A1, c1), (Tp, Tq), Ti), ⟨hp, hq, hi⟩, (zab [(0, .blk 0), (1, .blk 1), (2, .blk 2), (3, .blk 3), (4, .blk 4), (5, .blk 5), (6, .blk 6)] rfl rfl rfl rfl (leB rfl) ⟨⟨_, rfl, rfl⟩, ⟨_, rfl, rfl⟩, ⟨_, rfl, rfl⟩, ⟨_, rfl, rfl⟩, ⟨_, rfl, rfl⟩, ⟨_, rfl, rfl⟩, ⟨_, rfl, rfl⟩, ⟨_, rfl, rfl⟩, ⟨_, rfl, rfl⟩, ⟨_, rfl, rfl⟩, ⟨_, rfl, rfl⟩, ⟨_, rfl, rfl⟩, ⟨_, rfl, rfl⟩, trivial⟩ ⟨⟨_, rfl, rfl⟩, ⟨_, rfl, rfl⟩, ⟨_, rfl, rfl⟩, ⟨_, rfl, rfl⟩, ⟨_, rfl, rfl⟩, ⟨_, rfl, rfl⟩, ⟨_, rfl, rfl⟩, trivial⟩ ⟨⟨amG.up _, fun w h => h.2.2.2.2.2.2.1⟩, ⟨zax.up _ _ _, fun w h => h.1⟩, trivial⟩)⟩
     ·skip
      refine cstY rfl rfl rfl ?_
      let x5 : Nat × SV := (62, .one (.sl 7 0 2 2))
      let m5a : Nat × LB := (7, .cells 9 [.v (.string sP), .v (.string sQ)])
      refine zag ({ s := x5 :: x11 :: x2 :: x0 :: bS, m := m5a :: m11a :: bM, k := 8, f := f2a :: f0a :: bF }) [3] rfl (by kernel_rfl) (by kernel_rfl) ⟨⟨rfl, rfl⟩, trivial⟩ ⟨?_, trivial⟩
      refine cstY rfl rfl rfl ?_
      let x3 : Nat × SV := (60, .one (.sl 8 0 2 2))
      let m3a : Nat × LB := (8, .cells 41 (((cN sA).cells ++ (vN 0).cells).map SA.v))
      refine zag ({ s := x3 :: x5 :: x11 :: x2 :: x0 :: bS, m := m3a :: m5a :: m11a :: bM, k := 9, f := f2a :: f0a :: bF }) [4] rfl (by kernel_rfl) (by kernel_rfl) ⟨⟨rfl, trivial⟩, trivial⟩ ⟨?_, trivial⟩
      refine cstY rfl rfl rfl ?_
      refine zad 8 (vs := (cN sA).cells ++ (vN 0).cells) rfl rfl (fun g => ?_)
      refine zaa [] (za1 (some ⟨g, 0, none⟩)) rfl trivial rfl rfl (fun w h => ⟨zbn h.1 (cNa w) (vN0 w), vN0 w⟩) (fun x _ => ?_) (fun x hx => ?_)
      ·obtain ⟨xvk, xvn, xvs, xvla, xvlc, xvls, xvaa, xvac, xvus⟩ := x
       exact ⟨rfl, rfl⟩
      have hf : x.tm = tO := hx
      obtain ⟨xfk, xfn, xfs, xfla, xflc, xfls, xfaa, xfac, xfus⟩ := x
      let Tf : TT := (TT.mk xfk xfn xfs xfla xflc xfls xfaa xfac xfus)
      let x4 : Nat × SV := (61, ttA Tf)
      let m4a : Nat × LB := (8, .dead)
      let f4a : World -> Prop := fun w => TTIn w Tf
      let f4b : World -> Prop := fun w => SlAt w (some ⟨g, 0, none⟩) ((cN sA).cells ++ (vN 0).cells)
      refine zag ({ s := x4 :: x3 :: x5 :: x11 :: x2 :: x0 :: bS, m := m4a :: m3a :: m5a :: m11a :: bM, k := 9, f := f4a :: f4b :: f2a :: f0a :: bF }) [6] rfl (by kernel_rfl) (by kernel_rfl) ⟨⟨rfl, trivial⟩, trivial⟩ ⟨?_, trivial⟩
      refine cstY rfl rfl rfl ?_
      refine zad 7 (vs := [.string sP, .string sQ]) rfl rfl (fun g2 => ?_)
      refine zaa [] (za2 Tf hf (some ⟨g2, 0, none⟩)) rfl trivial rfl rfl (fun w h => ⟨⟨h.2.2.2.2.2.1.1, ⟨h.1, fun h => (by cases h), Nat.le_refl _, by decide⟩⟩, h.2.1⟩) (fun q _ => ?_) (fun q hq => ?_)
      ·obtain ⟨⟨A1, c1⟩, dn, xvk, xvn, xvs, xvla, xvlc, xvls, xvaa, xvac, xvus⟩ := q
       exact ⟨rfl, rfl⟩
      obtain ⟨⟨A1, c1⟩, dn, xik, xin, xis, xila, xilc, xils, xiaa, xiac, xius⟩ := q
      obtain ⟨hq1, hi⟩ := hq
      have hi : (TT.mk xik xin xis xila xilc xils xiaa xiac xius).tm = cT sQ := hi
      obtain ⟨u0, u1, hdn, hp, hq⟩ := zbi dn hq1
      have hdn : dn = [(sP, u0), (sQ, u1)] := hdn
      subst hdn
      obtain ⟨xpk, xpn, xps, xpla, xplc, xpls, xpaa, xpac, xpus⟩ := u0
      obtain ⟨xqk, xqn, xqs, xqla, xqlc, xqls, xqaa, xqac, xqus⟩ := u1
      let Tp : TT := (TT.mk xpk xpn xps xpla xplc xpls xpaa xpac xpus)
      let Tq : TT := (TT.mk xqk xqn xqs xqla xqlc xqls xqaa xqac xqus)
      let Ti : TT := (TT.mk xik xin xis xila xilc xils xiaa xiac xius)
      let x6 : Nat × SV := (63, .tup [.one (.v (.slice A1 2 c1)), .agg (Ti.cells.map SA.v), .one (.v (.bool true))])
      let m6a : Nat × LB := (7, .dead)
      let f6a : World -> Prop := zax A1 [(sP, Tp), (sQ, Tq)] Ti
      let f6b : World -> Prop := fun w => SlAt w (some ⟨g2, 0, none⟩) [.string sP, .string sQ]
      let x7 : Nat × SV := (56, .tup [.one (.v (.slice A1 2 c1)), .agg (Ti.cells.map SA.v), .one (.v (.bool true))])
      refine zae 7 x7.2 _ (by kernel_rfl) ⟨⟨rfl, trivial⟩, trivial⟩ (by kernel_rfl) rfl rfl rfl ?_
      let x8 : Nat × SV := (64, .one (.v (.slice A1 2 c1)))
      refine zae 8 x8.2 _ (by kernel_rfl) ⟨⟨rfl, trivial⟩, trivial⟩ (by kernel_rfl) rfl rfl rfl ?_
      let x9 : Nat × SV := (65, .agg (Ti.cells.map SA.v))
      refine zae 9 x9.2 _ (by kernel_rfl) ⟨⟨rfl, trivial⟩, trivial⟩ (by kernel_rfl) rfl rfl rfl ?_
      let x10 : Nat × SV := (66, .one (.v (.bool true)))
      refine zae 10 x10.2 _ (by kernel_rfl) ⟨⟨rfl, trivial⟩, trivial⟩ (by kernel_rfl) rfl rfl rfl ?_
      let x12 : Nat × SV := (13, .one (.v (.slice A1 2 c1)))
      refine zae 12 x12.2 _ (by kernel_rfl) ⟨⟨rfl, trivial⟩, trivial⟩ (by kernel_rfl) rfl rfl rfl ?_
      refine zag ({ s := x12 :: x10 :: x9 :: x8 :: x7 :: x6 :: x4 :: x3 :: x5 :: x11 :: x2 :: x0 :: bS, m := m6a :: m4a :: m3a :: m5a :: m11a :: bM, k := 9, f := f6a :: f6b :: f4a :: f4b :: f2a :: f0a :: bF }) [13] rfl (by kernel_rfl) (by kernel_rfl) ⟨⟨rfl, trivial⟩, trivial⟩ ⟨?_, trivial⟩
      refine cstY rfl rfl rfl ?_
      let m13a : Nat × LB := (6, .cells 41 (Ti.cells.map SA.v))
      let x14 : Nat × SV := (15, .one (.v (.bool true)))
      refine zae 14 x14.2 _ (by kernel_rfl) ⟨⟨rfl, trivial⟩, trivial⟩ (by kernel_rfl) rfl rfl rfl ?_
      refine zau _ rfl (by kernel_rfl) ⟨⟨rfl, trivial⟩, trivial⟩ ?_
      exact ⟨((A1, c1), (Tp, Tq), Ti), ⟨hp, hq, hi⟩, (zab [(0, .blk 0), (1, .blk 1), (2, .blk 2), (3, .blk 3), (4, .blk 4), (5, .blk 5), (6, .blk 6)] rfl rfl rfl rfl (leB rfl) ⟨⟨_, rfl, rfl⟩, ⟨_, rfl, rfl⟩, ⟨_, rfl, rfl⟩, ⟨_, rfl, rfl⟩, ⟨_, rfl, rfl⟩, ⟨_, rfl, rfl⟩, ⟨_, rfl, rfl⟩, ⟨_, rfl, rfl⟩, ⟨_, rfl, rfl⟩, ⟨_, rfl, rfl⟩, ⟨_, rfl, rfl⟩, ⟨_, rfl, rfl⟩, ⟨_, rfl, rfl⟩, trivial⟩ ⟨⟨_, rfl, rfl⟩, ⟨_, rfl, rfl⟩, ⟨_, rfl, rfl⟩, ⟨_, rfl, rfl⟩, ⟨_, rfl, rfl⟩, ⟨_, rfl, rfl⟩, ⟨_, rfl, rfl⟩, trivial⟩ ⟨⟨amG.up _, fun w h => h.2.2.2.2.2.2.1⟩, ⟨zax.up _ _ _, fun w h => h.1⟩, trivial⟩)⟩
   ·skip
    refine cstY rfl rfl rfl ?_
    let x5 : Nat × SV := (62, .one (.sl 6 0 2 2))
    let m5a : Nat × LB := (6, .cells 9 [.v (.string sP), .v (.string sQ)])
    refine zag ({ s := x5 :: x0 :: bS, m := m5a :: bM, k := 7, f := f0a :: bF }) [2, 11] rfl (by kernel_rfl) (by kernel_rfl) ⟨⟨rfl, rfl⟩, trivial⟩ ⟨?_, ?_, trivial⟩
    ·skip
     refine cstY rfl rfl rfl ?_
     refine zaa [] (zb2 0) rfl trivial rfl rfl (fun _ _ => trivial) (fun _ _ => ⟨rfl, rfl⟩) (fun _ _ => ?_)
     let x2 : Nat × SV := (59, ttA (vN 0))
     let f2a : World -> Prop := fun _ => True
     refine zag ({ s := x2 :: x5 :: x0 :: bS, m := m5a :: bM, k := 7, f := f2a :: f0a :: bF }) [3, 11] rfl (by kernel_rfl) (by kernel_rfl) ⟨⟨rfl, rfl⟩, trivial⟩ ⟨?_, ?_, trivial⟩
     ·skip
      refine cstY rfl rfl rfl ?_
      let x3 : Nat × SV := (60, .one (.sl 7 0 2 2))
      let m3a : Nat × LB := (7, .cells 41 (((cN sA).cells ++ (vN 0).cells).map SA.v))
      refine zag ({ s := x3 :: x2 :: x5 :: x0 :: bS, m := m3a :: m5a :: bM, k := 8, f := f2a :: f0a :: bF }) [4, 11] rfl (by kernel_rfl) (by kernel_rfl) ⟨⟨rfl, trivial⟩, trivial⟩ ⟨?_, ?_, trivial⟩
      ·skip
       refine cstY rfl rfl rfl ?_
       refine zad 7 (vs := (cN sA).cells ++ (vN 0).cells) rfl rfl (fun g => ?_)
       refine zaa [] (za1 (some ⟨g, 0, none⟩)) rfl trivial rfl rfl (fun w h => ⟨zbn h.1 (cNa w) (vN0 w), vN0 w⟩) (fun x _ => ?_) (fun x hx => ?_)
       ·obtain ⟨xvk, xvn, xvs, xvla, xvlc, xvls, xvaa, xvac, xvus⟩ := x
        exact ⟨rfl, rfl⟩
       have hf : x.tm = tO := hx
       obtain ⟨xfk, xfn, xfs, xfla, xflc, xfls, xfaa, xfac, xfus⟩ := x
       let Tf : TT := (TT.mk xfk xfn xfs xfla xflc xfls xfaa xfac xfus)
       let x4 : Nat × SV := (61, ttA Tf)
       let m4a : Nat × LB := (7, .dead)
       let f4a : World -> Prop := fun w => TTIn w Tf
       let f4b : World -> Prop := fun w => SlAt w (some ⟨g, 0, none⟩) ((cN sA).cells ++ (vN 0).cells)
       refine zag ({ s := x4 :: x3 :: x2 :: x5 :: x0 :: bS, m := m4a :: m3a :: m5a :: bM, k := 8, f := f4a :: f4b :: f2a :: f0a :: bF }) [6, 11] rfl (by kernel_rfl) (by kernel_rfl) ⟨⟨rfl, trivial⟩, trivial⟩ ⟨?_, ?_, trivial⟩
       ·skip
        refine cstY rfl rfl rfl ?_
        refine zad 6 (vs := [.string sP, .string sQ]) rfl rfl (fun g2 => ?_)
        refine zaa [] (za2 Tf hf (some ⟨g2, 0, none⟩)) rfl trivial rfl rfl (fun w h => ⟨⟨h.2.2.2.2.2.1.1, ⟨h.1, fun h => (by cases h), Nat.le_refl _, by decide⟩⟩, h.2.1⟩) (fun q _ => ?_) (fun q hq => ?_)
        ·obtain ⟨⟨A1, c1⟩, dn, xvk, xvn, xvs, xvla, xvlc, xvls, xvaa, xvac, xvus⟩ := q
         exact ⟨rfl, rfl⟩
        obtain ⟨⟨A1, c1⟩, dn, xik, xin, xis, xila, xilc, xils, xiaa, xiac, xius⟩ := q
        obtain ⟨hq1, hi⟩ := hq
        have hi : (TT.mk xik xin xis xila xilc xils xiaa xiac xius).tm = cT sQ := hi
        obtain ⟨u0, u1, hdn, hp, hq⟩ := zbi dn hq1
        have hdn : dn = [(sP, u0), (sQ, u1)] := hdn
        subst hdn
        obtain ⟨xpk, xpn, xps, xpla, xplc, xpls, xpaa, xpac, xpus⟩ := u0
        obtain ⟨xqk, xqn, xqs, xqla, xqlc, xqls, xqaa, xqac, xqus⟩ := u1
        let Tp : TT := (TT.mk xpk xpn xps xpla xplc xpls xpaa xpac xpus)
        let Tq : TT := (TT.mk xqk xqn xqs xqla xqlc xqls xqaa xqac xqus)
        let Ti : TT := (TT.mk xik xin xis xila xilc xils xiaa xiac xius)
        let x6 : Nat × SV := (63, .tup [.one (.v (.slice A1 2 c1)), .agg (Ti.cells.map SA.v), .one (.v (.bool true))])
        let m6a : Nat × LB := (6, .dead)
        let f6a : World -> Prop := zax A1 [(sP, Tp), (sQ, Tq)] Ti
        let f6b : World -> Prop := fun w => SlAt w (some ⟨g2, 0, none⟩) [.string sP, .string sQ]
        let x7 : Nat × SV := (56, .tup [.one (.v (.slice A1 2 c1)), .agg (Ti.cells.map SA.v), .one (.v (.bool true))])
        refine zae 7 x7.2 _ (by kernel_rfl) ⟨⟨rfl, trivial⟩, trivial⟩ (by kernel_rfl) rfl rfl rfl ?_
        let x8 : Nat × SV := (64, .one (.v (.slice A1 2 c1)))
        refine zae 8 x8.2 _ (by kernel_rfl) ⟨⟨rfl, trivial⟩, trivial⟩ (by kernel_rfl) rfl rfl rfl ?_
        let x9 : Nat × SV := (65, .agg (Ti.cells.map SA.v))
        refine zae 9 x9.2 _ (by kernel_rfl) ⟨⟨rfl, trivial⟩, trivial⟩ (by kernel_rfl) rfl rfl rfl ?_
        let x10 : Nat × SV := (66, .one (.v (.bool true)))
        refine zae 10 x10.2 _ (by kernel_rfl) ⟨⟨rfl, trivial⟩, trivial⟩ (by kernel_rfl) rfl rfl rfl ?_
        refine zag ({ s := x10 :: x9 :: x8 :: x7 :: x6 :: x4 :: x3 :: x2 :: x5 :: x0 :: bS, m := m6a :: m4a :: m3a :: m5a :: bM, k := 8, f := f6a :: f6b :: f4a :: f4b :: f2a :: f0a :: bF }) [11] rfl (by kernel_rfl) (by kernel_rfl) ⟨⟨rfl, trivial⟩, trivial⟩ ⟨?_, trivial⟩
        refine cstY rfl rfl rfl ?_
        let x11 : Nat × SV := (14, .one (.p 8 0))
        let m11a : Nat × LB := (8, .cells 41 zan)
        let x12 : Nat × SV := (13, .one (.v (.slice A1 2 c1)))
        refine zae 12 x12.2 _ (by kernel_rfl) ⟨⟨rfl, trivial⟩, trivial⟩ (by kernel_rfl) rfl rfl rfl ?_
        refine zag ({ s := x12 :: x11 :: x10 :: x9 :: x8 :: x7 :: x6 :: x4 :: x3 :: x2 :: x5 :: x0 :: bS, m := m11a :: m6a :: m4a :: m3a :: m5a :: bM, k := 9, f := f6a :: f6b :: f4a :: f4b :: f2a :: f0a :: bF }) [13] rfl (by kernel_rfl) (by kernel_rfl) ⟨⟨rfl, trivial⟩, trivial⟩ ⟨?_, trivial⟩
        refine cstY rfl rfl rfl ?_
        let m13a : Nat × LB := (8, .cells 41 (Ti.cells.map SA.v))
        let x14 : Nat × SV := (15, .one (.v (.bool true)))
        refine zae 14 x14.2 _ (by kernel_rfl) ⟨⟨rfl, trivial⟩, trivial⟩ (by kernel_rfl) rfl rfl rfl ?_
        refine zau _ rfl (by kernel_rfl) ⟨⟨rfl, trivial⟩, trivial⟩ ?_
        exact ⟨((A1, c1), (Tp, Tq), Ti), ⟨hp, hq, hi⟩, (zab [(0, .blk 0), (1, .blk 1), (2, .blk 2), (3, .blk 3), (4, .blk 4), (5, .blk 5), (6, .blk 8)] rfl rfl rfl rfl (leB rfl) ⟨⟨_, rfl, rfl⟩, ⟨_, rfl, rfl⟩, ⟨_, rfl, rfl⟩, ⟨_, rfl, rfl⟩, ⟨_, rfl, rfl⟩, ⟨_, rfl, rfl⟩, ⟨_, rfl, rfl⟩, ⟨_, rfl, rfl⟩, ⟨_, rfl, rfl⟩, ⟨_, rfl, rfl⟩, ⟨_, rfl, rfl⟩, ⟨_, rfl, rfl⟩, ⟨_, rfl, rfl⟩, trivial⟩ ⟨⟨_, rfl, rfl⟩, ⟨_, rfl, rfl⟩, ⟨_, rfl, rfl⟩, ⟨_, rfl, rfl⟩, ⟨_, rfl, rfl⟩, ⟨_, rfl, rfl⟩, ⟨_, rfl, rfl⟩, trivial⟩ ⟨⟨amG.up _, fun w h => h.2.2.2.2.2.2.1⟩, ⟨zax.up _ _ _, fun w h => h.1⟩, trivial⟩)⟩
       ·skip
        refine cstY rfl rfl rfl ?_
        let x11 : Nat × SV := (14, .one (.p 8 0))
        let m11a : Nat × LB := (8, .cells 41 zan)
        refine zag ({ s := x11 :: x4 :: x3 :: x2 :: x5 :: x0 :: bS, m := m11a :: m4a :: m3a :: m5a :: bM, k := 9, f := f4a :: f4b :: f2a :: f0a :: bF }) [6] rfl (by kernel_rfl) (by kernel_rfl) ⟨⟨rfl, trivial⟩, trivial⟩ ⟨?_, trivial⟩
        refine cstY rfl rfl rfl ?_
        refine zad 6 (vs := [.string sP, .string sQ]) rfl rfl (fun g2 => ?_)
        refine zaa [] (za2 Tf hf (some ⟨g2, 0, none⟩)) rfl trivial rfl rfl (fun w h => ⟨⟨h.2.2.2.2.2.1.1, ⟨h.1, fun h => (by cases h), Nat.le_refl _, by decide⟩⟩, h.2.1⟩) (fun q _ => ?_) (fun q hq => ?_)
        ·obtain ⟨⟨A1, c1⟩, dn, xvk, xvn, xvs, xvla, xvlc, xvls, xvaa, xvac, xvus⟩ := q
         exact ⟨rfl, rfl⟩
        obtain ⟨⟨A1, c1⟩, dn, xik, xin, xis, xila, xilc, xils, xiaa, xiac, xius⟩ := q
        obtain ⟨hq1, hi⟩ := hq
        have hi : (TT.mk xik xin xis xila xilc xils xiaa xiac xius).tm = cT sQ := hi
        obtain ⟨u0, u1, hdn, hp, hq⟩ := zbi dn hq1
        have hdn : dn = [(sP, u0), (sQ, u1)] := hdn
        subst hdn
        obtain ⟨xpk, xpn, xps, xpla, xplc, xpls, xpaa, xpac, xpus⟩ := u0
        obtain ⟨xqk, xqn, xqs, xqla, xqlc, xqls, xqaa, xqac, xqus⟩ := u1
        let Tp : TT := (TT.mk xpk xpn xps xpla xplc xpls xpaa xpac xpus)
        let Tq : TT := (TT.mk xqk xqn xqs xqla xqlc xqls xqaa xqac xqus)
        let Ti : TT := (TT.mk xik xin xis xila xilc xils xiaa xiac xius)
        let x6 : Nat × SV := (63, .tup [.one (.v (.slice A1 2 c1)), .agg (Ti.cells.map SA.v), .one (.v (.bool true))])
        let m6a : Nat × LB := (6, .dead)
        let f6a : World -> Prop := zax A1 [(sP, Tp), (sQ, Tq)] Ti
        let f6b : World -> Prop := fun w => SlAt w (some ⟨g2, 0, none⟩) [.string sP, .string sQ]
        let x7 : Nat × SV := (56, .tup [.one (.v (.slice A1 2 c1)), .agg (Ti.cells.map SA.v), .one (.v (.bool true))])
        refine zae 7 x7.2 _ (by kernel_rfl) ⟨⟨rfl, trivial⟩, trivial⟩ (by kernel_rfl) rfl rfl rfl ?_
        let x8 : Nat × SV := (64, .one (.v (.slice A1 2 c1)))
        refine zae 8 x8.2 _ (by kernel_rfl) ⟨⟨rfl, trivial⟩, trivial⟩ (by kernel_rfl) rfl rfl rfl ?_
        let x9 : Nat × SV := (65, .agg (Ti.cells.map SA.v))
        refine zae 9 x9.2 _ (by kernel_rfl) ⟨⟨rfl, trivial⟩, trivial⟩ (by kernel_rfl) rfl rfl rfl ?_
        let x10 : Nat × SV := (66, .one (.v (.bool true)))
        refine zae 10 x10.2 _ (by kernel_rfl) ⟨⟨rfl, trivial⟩, trivial⟩ (by kernel_rfl) rfl rfl rfl ?_
        let x12 : Nat × SV := (13, .one (.v (.slice A1 2 c1)))
        refine zae 12 x12.2 _ (by kernel_rfl) ⟨⟨rfl, trivial⟩, trivial⟩ (by kernel_rfl) rfl rfl rfl ?_
        refine zag ({ s := x12 :: x10 :: x9 :: x8 :: x7 :: x6 :: x11 :: x4 :: x3 :: x2 :: x5 :: x0 :: bS, m := m6a :: m11a :: m4a :: m3a :: m5a :: bM, k := 9, f := f6a :: f6b :: f4a :: f4b :: f2a :: f0a :: bF }) [13] rfl (by kernel_rfl) (by kernel_rfl) ⟨⟨rfl, trivial⟩, trivial⟩ ⟨?_, trivial⟩
        refine cstY rfl rfl rfl ?_
        let m13a : Nat × LB := (8, .cells 41 (Ti.cells.map SA.v))
        let x14 : Nat × SV := (15, .one (.v (.bool true)))
        refine zae 14 x14.2 _ (by kernel_rfl) ⟨⟨rfl, trivial⟩, trivial⟩ (by kernel_rfl) rfl rfl rfl ?_
        refine zau _ rfl (by kernel_rfl) ⟨⟨rfl, trivial⟩, trivial⟩ ?_
        exact ⟨((A1, c1), (Tp, Tq), Ti), ⟨hp, hq, hi⟩, (zab [(0, .blk 0), (1, .blk 1), (2, .blk 2), (3, .blk 3), (4, .blk 4), (5, .blk 5), (6, .blk 8)] rfl rfl rfl rfl (leB rfl) ⟨⟨_, rfl, rfl⟩, ⟨_, rfl, rfl⟩, ⟨_, rfl, rfl⟩, ⟨_, rfl, rfl⟩, ⟨_, rfl, rfl⟩, ⟨_, rfl, rfl⟩, ⟨_, rfl, rfl⟩, ⟨_, rfl, rfl⟩, ⟨_, rfl, rfl⟩, ⟨_, rfl, rfl⟩, ⟨_, rfl, rfl⟩, ⟨_, rfl, rfl⟩, ⟨_, rfl, rfl⟩, trivial⟩ ⟨⟨_, rfl, rfl⟩, ⟨_, rfl, rfl⟩, ⟨_, rfl, rfl⟩, ⟨_, rfl, rfl⟩, ⟨_, rfl, rfl⟩, ⟨_, rfl, rfl⟩, ⟨_, rfl, rfl⟩, trivial⟩ ⟨⟨amG.up _, fun w h => h.2.2.2.2.2.2.1⟩, ⟨zax.up _ _ _, fun w h => h.1⟩, trivial⟩)⟩
      ·skip
       refine cstY rfl rfl rfl ?_
       let x11 : Nat × SV := (14, .one (.p 8 0))
       let m11a : Nat × LB := (8, .cells 41 zan)
       refine zag ({ s := x11 :: x3 :: x2 :: x5 :: x0 :: bS, m := m11a :: m3a :: m5a :: bM, k := 9, f := f2a :: f0a :: bF }) [4] rfl (by kernel_rfl) (by kernel_rfl) ⟨⟨rfl, trivial⟩, trivial⟩ ⟨?_, trivial⟩
       refine cstY rfl rfl rfl ?_
       refine zad 7 (vs := (cN sA).cells ++ (vN 0).cells) rfl rfl (fun g => ?_)
       refine zaa [] (za1 (some ⟨g, 0, none⟩)) rfl trivial rfl rfl (fun w h => ⟨zbn h.1 (cNa w) (vN0 w), vN0 w⟩) (fun x _ => ?_) (fun x hx => ?_)
       ·obtain ⟨xvk, xvn, xvs, xvla, xvlc, xvls, xvaa, xvac, xvus⟩ := x
        exact ⟨rfl, rfl⟩
       have hf : x.tm = tO := hx
       obtain ⟨xfk, xfn, xfs, xfla, xflc, xfls, xfaa, xfac, xfus⟩ := x
       let Tf : TT := (TT.mk xfk xfn xfs xfla xflc xfls xfaa xfac xfus)
       let x4 : Nat × SV := (61, ttA Tf)
       let m4a : Nat × LB := (7, .dead)
       let f4a : World -> Prop := fun w => TTIn w Tf
       let f4b : World -> Prop := fun w => SlAt w (some ⟨g, 0, none⟩) ((cN sA).cells ++ (vN 0).cells)
       refine zag ({ s := x4 :: x11 :: x3 :: x2 :: x5 :: x0 :: bS, m := m4a :: m11a :: m3a :: m5a :: bM, k := 9, f := f4a :: f4b :: f2a :: f0a :: bF }) [6] rfl (by kernel_rfl) (by kernel_rfl) ⟨⟨rfl, trivial⟩, trivial⟩ ⟨?_, trivial⟩
       refine cstY rfl rfl rfl ?_
       refine zad 6 (vs := [.string sP, .string sQ]) rfl rfl (fun g2 => ?_)
       refine zaa [] (za2 Tf hf (some ⟨g2, 0, none⟩)) rfl trivial rfl rfl (fun w h => ⟨⟨h.2.2.2.2.2.1.1, ⟨h.1, fun h => (by cases h), Nat.le_refl _, by decide⟩⟩, h.2.1⟩) (fun q _ => ?_) (fun q hq => ?_)
       ·obtain ⟨⟨A1, c1⟩, dn, xvk, xvn, xvs, xvla, xvlc, xvls, xvaa, xvac, xvus⟩ := q
        exact ⟨rfl, rfl⟩
       obtain ⟨⟨A1, c1⟩, dn, xik, xin, xis, xila, xilc, xils, xiaa, xiac, xius⟩ := q
       obtain ⟨hq1, hi⟩ := hq
       have hi : (TT.mk xik xin xis xila xilc xils xiaa xiac xius).tm = cT sQ := hi
       obtain ⟨u0, u1, hdn, hp, hq⟩ := zbi dn hq1
       have hdn : dn = [(sP, u0), (sQ, u1)] := hdn
       subst hdn
       obtain ⟨xpk, xpn, xps, xpla, xplc, xpls, xpaa, xpac, xpus⟩ := u0
       obtain ⟨xqk, xqn, xqs, xqla, xqlc, xqls, xqaa, xqac, xqus⟩ := u1
       let Tp : TT := (TT.mk xpk xpn xps xpla xplc xpls xpaa xpac xpus)
       let Tq : TT := (TT.mk xqk xqn xqs xqla xqlc xqls xqaa xqac xqus)
       let Ti : TT := (TT.mk xik xin xis xila xilc xils xiaa xiac xius)
       let x6 : Nat × SV := (63, .tup [.one (.v (.slice A1 2 c1)), .agg (Ti.cells.map SA.v), .one (.v (.bool true))])
       let m6a : Nat × LB := (6, .dead)
       let f6a : World -> Prop := zax A1 [(sP, Tp), (sQ, Tq)] Ti
       let f6b : World -> Prop := fun w => SlAt w (some ⟨g2, 0, none⟩) [.string sP, .string sQ]
       let x7 : Nat × SV := (56, .tup [.one (.v (.slice A1 2 c1)), .agg (Ti.cells.map SA.v), .one (.v (.bool true))])
       refine zae 7 x7.2 _ (by kernel_rfl) ⟨⟨rfl, trivial⟩, trivial⟩ (by kernel_rfl) rfl rfl rfl ?_
       let x8 : Nat × SV := (64, .one (.v (.slice A1 2 c1)))
       refine zae 8 x8.2 _ (by kernel_rfl) ⟨⟨rfl, trivial⟩, trivial⟩ (by kernel_rfl) rfl rfl rfl ?_
       let x9 : Nat × SV := (65, .agg (Ti.cells.map SA.v))
       refine zae 9 x9.2 _ (by kernel_rfl) ⟨⟨rfl, trivial⟩, trivial⟩ (by kernel_rfl) rfl rfl rfl ?_
       let x10 : Nat × SV := (66, .one (.v (.bool true)))
       refine zae 10 x10.2 _ (by kernel_rfl) ⟨⟨rfl, trivial⟩, trivial⟩ (by kernel_rfl) rfl rfl rfl ?_
       let x12 : Nat × SV := (13, .one (.v (.slice A1 2 c1)))
       refine zae 12 x12.2 _ (by kernel_rfl) ⟨⟨rfl, trivial⟩, trivial⟩ (by kernel_rfl) rfl rfl rfl ?_
       refine zag ({ s := x12 :: x10 :: x9 :: x8 :: x7 :: x6 :: x4 :: x11 :: x3 :: x2 :: x5 :: x0 :: bS, m := m6a :: m4a :: m11a :: m3a :: m5a :: bM, k := 9, f := f6a :: f6b :: f4a :: f4b :: f2a :: f0a :: bF }) [13] rfl (by kernel_rfl) (by kernel_rfl) ⟨⟨rfl, trivial⟩, trivial⟩ ⟨?_, trivial⟩
       refine cstY rfl rfl rfl ?_
       let m13a : Nat × LB := (8, .cells 41 (Ti.cells.map SA.v))
       let x14 : Nat × SV := (15, .one (.v (.bool true)))
       refine zae 14 x14.2 _ (by kernel_rfl) ⟨⟨rfl, trivial⟩, trivial⟩ (by kernel_rfl) rfl rfl rfl ?_
       refine zau _ rfl (by kernel_rfl) ⟨⟨rfl, trivial⟩, trivial⟩ ?_
       exact ⟨((A1, c1), (Tp, Tq), Ti), ⟨hp, hq, hi⟩, (zab [(0, .blk 0), (1, .blk 1), (2, .blk 2), (3, .blk 3), (4, .blk 4), (5, .blk 5), (6, .blk 8)] rfl rfl rfl rfl (leB rfl) ⟨⟨_, rfl, rfl⟩, ⟨_, rfl, rfl⟩, ⟨_, rfl, rfl⟩, ⟨_, rfl, rfl⟩, ⟨_, rfl, rfl⟩, ⟨_, rfl, rfl⟩, ⟨_, rfl, rfl⟩, ⟨_, rfl, rfl⟩, ⟨_, rfl, rfl⟩, ⟨_, rfl, rfl⟩, ⟨_, rfl, rfl⟩, ⟨_, rfl, rfl⟩, ⟨_, rfl, rfl⟩, trivial⟩ ⟨⟨_, rfl, rfl⟩, ⟨_, rfl, rfl⟩, ⟨_, rfl, rfl⟩, ⟨_, rfl, rfl⟩, ⟨_, rfl, rfl⟩, ⟨_, rfl, rfl⟩, ⟨_, rfl, rfl⟩, trivial⟩ ⟨⟨amG.up _, fun w h => h.2.2.2.2.2.2.1⟩, ⟨zax.up _ _ _, fun w h => h.1⟩, trivial⟩)⟩
     ·skip
      refine cstY rfl rfl rfl ?_
      let x11 : Nat × SV := (14, .one (.p 7 0))
      let m11a : Nat × LB := (7, .cells 41 zan)
      refine zag ({ s := x11 :: x2 :: x5 :: x0 :: bS, m := m11a :: m5a :: bM, k := 8, f := f2a :: f0a :: bF }) [3] rfl (by kernel_rfl) (by kernel_rfl) ⟨⟨rfl, rfl⟩, trivial⟩ ⟨?_, trivial⟩
      refine cstY rfl rfl rfl ?_
      let x3 : Nat × SV := (60, .one (.sl 8 0 2 2))
      let m3a : Nat × LB := (8, .cells 41 (((cN sA).cells ++ (vN 0).cells).map SA.v))
      refine zag ({ s := x3 :: x11 :: x2 :: x5 :: x0 :: bS, m := m3a :: m11a :: m5a :: bM, k := 9, f := f2a :: f0a :: bF }) [4] rfl (by kernel_rfl) (by kernel_rfl) ⟨⟨rfl, trivial⟩, trivial⟩ ⟨?_, trivial⟩
      refine cstY rfl rfl rfl ?_
      refine zad 8 (vs := (cN sA).cells ++ (vN 0).cells) rfl rfl (fun g => ?_)
      refine zaa [] (za1 (some ⟨g, 0, none⟩)) rfl trivial rfl rfl (fun w h => ⟨zbn h.1 (cNa w) (vN0 w), vN0 w⟩) (fun x _ => ?_) (fun x hx => ?_)
      ·obtain ⟨xvk, xvn, xvs, xvla, xvlc, xvls, xvaa, xvac, xvus⟩ := x
       exact ⟨rfl, rfl⟩
      have hf : x.tm = tO := hx
      obtain ⟨xfk, xfn, xfs, xfla, xflc, xfls, xfaa, xfac, xfus⟩ := x
      let Tf : TT := (TT.mk xfk xfn xfs xfla xflc xfls xfaa xfac xfus)
      let x4 : Nat × SV := (61, ttA Tf)
      let m4a : Nat × LB := (8, .dead)
      let f4a : World -> Prop := fun w => TTIn w Tf
      let f4b : World -> Prop := fun w => SlAt w (some ⟨g, 0, none⟩) ((cN sA).cells ++ (vN 0).cells)
      refine zag ({ s := x4 :: x3 :: x11 :: x2 :: x5 :: x0 :: bS, m := m4a :: m3a :: m11a :: m5a :: bM, k := 9, f := f4a :: f4b :: f2a :: f0a :: bF }) [6] rfl (by kernel_rfl) (by kernel_rfl) ⟨⟨rfl, trivial⟩, trivial⟩ ⟨?_, trivial⟩
      refine cstY rfl rfl rfl ?_
      refine zad 6 (vs := [.string sP, .string sQ]) rfl rfl (fun g2 => ?_)
      refine zaa [] (za2 Tf hf (some ⟨g2, 0, none⟩)) rfl trivial rfl rfl (fun w h => ⟨⟨h.2.2.2.2.2.1.1, ⟨h.1, fun h => (by cases h), Nat.le_refl _, by decide⟩⟩, h.2.1⟩) (fun q _ => ?_) (fun q hq => ?_)
      ·obtain ⟨⟨A1, c1⟩, dn, xvk, xvn, xvs, xvla, xvlc, xvls, xvaa, xvac, xvus⟩ := q
       exact ⟨rfl, rfl⟩
      obtain ⟨⟨A1, c1⟩, dn, xik, xin, xis, xila, xilc, xils, xiaa, xiac, xius⟩ := q
      obtain ⟨hq1, hi⟩ := hq
      have hi : (TT.mk xik xin xis xila xilc xils xiaa xiac xius).tm = cT sQ := hi
      obtain ⟨u0, u1, hdn, hp, hq⟩ := zbi dn hq1
      have hdn : dn = [(sP, u0), (sQ, u1)] := hdn
      subst hdn
      obtain ⟨xpk, xpn, xps, xpla, xplc, xpls, xpaa, xpac, xpus⟩ := u0
      obtain ⟨xqk, xqn, xqs, xqla, xqlc, xqls, xqaa, xqac, xqus⟩ := u1
      let Tp : TT := (TT.mk xpk xpn xps xpla xplc xpls xpaa xpac xpus)
      let Tq : TT := (TT.mk xqk xqn xqs xqla xqlc xqls xqaa xqac xqus)
      let Ti : TT := (TT.mk xik xin xis xila xilc xils xiaa xiac xius)
      let x6 : Nat × SV := (63, .tup [.one (.v (.slice A1 2 c1)), .agg (Ti.cells.map SA.v), .one (.v (.bool true))])
      let m6a : Nat × LB := (6, .dead)
      let f6a : World -> Prop := zax A1 [(sP, Tp), (sQ, Tq)] Ti
      let f6b : World -> Prop := fun w => SlAt w (some ⟨g2, 0, none⟩) [.string sP, .string sQ]
      let x7 : Nat × SV := (56, .tup [.one (.v (.slice A1 2 c1)), .agg (Ti.cells.map SA.v), .one (.v (.bool true))])
      refine zae 7 x7.2 _ (by kernel_rfl) ⟨⟨rfl, trivial⟩, trivial⟩ (by kernel_rfl) rfl rfl rfl ?_
      let x8 : Nat × SV := (64, .one (.v (.slice A1 2 c1)))
      refine zae 8 x8.2 _ (by kernel_rfl) ⟨⟨rfl, trivial⟩, trivial⟩ (by kernel_rfl) rfl rfl rfl ?_
      let x9 : Nat × SV := (65, .agg (Ti.cells.map SA.v))
      refine zae 9 x9.2 _ (by kernel_rfl) ⟨⟨rfl, trivial⟩, trivial⟩ (by kernel_rfl) rfl rfl rfl ?_
      let x10 : Nat × SV := (66, .one (.v (.bool true)))
      refine zae 10 x10.2 _ (by kernel_rfl) ⟨⟨rfl, trivial⟩, trivial⟩ (by kernel_rfl) rfl rfl rfl ?_
      let x12 : Nat × SV := (13, .one (.v (.slice A1 2 c1)))
      refine zae 12 x12.2 _ (by kernel_rfl) ⟨⟨rfl, trivial⟩, trivial⟩ (by kernel_rfl) rfl rfl rfl ?_
      refine zag ({ s := x12 :: x10 :: x9 :: x8 :: x7 :: x6 :: x4 :: x3 :: x11 :: x2 :: x5 :: x0 :: bS, m := m6a :: m4a :: m3a :: m11a :: m5a :: bM, k := 9, f := f6a :: f6b :: f4a :: f4b :: f2a :: f0a :: bF }) [13] rfl (by kernel_rfl) (by kernel_rfl) ⟨⟨rfl, trivial⟩, trivial⟩ ⟨?_, trivial⟩
      refine cstY rfl rfl rfl ?_
      let m13a : Nat × LB := (7, .cells 41 (Ti.cells.map SA.v))
      let x14 : Nat × SV := (15, .one (.v (.bool true)))
      refine zae 14 x14.2 _ (by kernel_rfl) ⟨⟨rfl, trivial⟩, trivial⟩ (by kernel_rfl) rfl rfl rfl ?_
      refine zau _ rfl (by kernel_rfl) ⟨⟨rfl, trivial⟩, trivial⟩ ?_
      exact ⟨((A1, c1), (Tp, Tq), Ti), ⟨hp, hq, hi⟩, (zab [(0, .blk 0), (1, .blk 1), (2, .blk 2), (3, .blk 3), (4, .blk 4), (5, .blk 5), (6, .blk 7)] rfl rfl rfl rfl (leB rfl) ⟨⟨_, rfl, rfl⟩, ⟨_, rfl, rfl⟩, ⟨_, rfl, rfl⟩, ⟨_, rfl, rfl⟩, ⟨_, rfl, rfl⟩, ⟨_, rfl, rfl⟩, ⟨_, rfl, rfl⟩, ⟨_, rfl, rfl⟩, ⟨_, rfl, rfl⟩, ⟨_, rfl, rfl⟩, ⟨_, rfl, rfl⟩, ⟨_, rfl, rfl⟩, ⟨_, rfl, rfl⟩, trivial⟩ ⟨⟨_, rfl, rfl⟩, ⟨_, rfl, rfl⟩, ⟨_, rfl, rfl⟩, ⟨_, rfl, rfl⟩, ⟨_, rfl, rfl⟩, ⟨_, rfl, rfl⟩, ⟨_, rfl, rfl⟩, trivial⟩ ⟨⟨amG.up _, fun w h => h.2.2.2.2.2.2.1⟩, ⟨zax.up _ _ _, fun w h => h.1⟩, trivial⟩)⟩
    ·skip
     refine cstY rfl rfl rfl ?_
     let x11 : Nat × SV := (14, .one (.p 7 0))
     let m11a : Nat × LB := (7, .cells 41 zan)
     refine zag ({ s := x11 :: x5 :: x0 :: bS, m := m11a :: m5a :: bM, k := 8, f := f0a :: bF }) [2] rfl (by kernel_rfl) (by kernel_rfl) ⟨⟨rfl, rfl⟩, trivial⟩ ⟨?_, trivial⟩
     refine cstY rfl rfl rfl ?_
     refine zaa [] (zb2 0) rfl trivial rfl rfl (fun _ _ => trivial) (fun _ _ => ⟨rfl, rfl⟩) (fun _ _ => ?_)
     let x2 : Nat × SV := (59, ttA (vN 0))
     let f2a : World -> Prop := fun _ => True
     refine zag ({ s := x2 :: x11 :: x5 :: x0 :: bS, m := m11a :: m5a :: bM, k := 8, f := f2a :: f0a :: bF }) [3] rfl (by kernel_rfl) (by kernel_rfl) ⟨⟨rfl, rfl⟩, trivial⟩ ⟨?_, trivial⟩
     refine cstY rfl rfl rfl ?_
     let x3 : Nat × SV := (60, .one (.sl 8 0 2 2))
     let m3a : Nat × LB := (8, .cells 41 (((cN sA).cells ++ (vN 0).cells).map SA.v))
     refine zag ({ s := x3 :: x2 :: x11 :: x5 :: x0 :: bS, m := m3a :: m11a :: m5a :: bM, k := 9, f := f2a :: f0a :: bF }) [4] rfl (by kernel_rfl) (by kernel_rfl) ⟨⟨rfl, trivial⟩, trivial⟩ ⟨?_, trivial⟩
     refine cstY rfl rfl rfl ?_
     refine zad 8 (vs := (cN sA).cells ++ (vN 0).cells) rfl rfl (fun g => ?_)
     refine zaa [] (za1 (some ⟨g, 0, none⟩)) rfl trivial rfl rfl (fun w h => ⟨zbn h.1 (cNa w) (vN0 w), vN0 w⟩) (fun x _ => ?_) (fun x hx => ?_)
     ·obtain ⟨xvk, xvn, xvs, xvla, xvlc, xvls, xvaa, xvac, xvus⟩ := x
      exact ⟨rfl, rfl⟩
     have hf : x.tm = tO := hx
     obtain ⟨xfk, xfn, xfs, xfla, xflc, xfls, xfaa, xfac, xfus⟩ := x
     let Tf : TT := (TT.mk xfk xfn xfs xfla xflc xfls xfaa xfac xfus)
     let x4 : Nat × SV := (61, ttA Tf)
     let m4a : Nat × LB := (8, .dead)
     let f4a : World -> Prop := fun w => TTIn w Tf
     let f4b : World -> Prop := fun w => SlAt w (some ⟨g, 0, none⟩) ((cN sA).cells ++ (vN 0).cells)
     refine zag ({ s := x4 :: x3 :: x2 :: x11 :: x5 :: x0 :: bS, m := m4a :: m3a :: m11a :: m5a :: bM, k := 9, f := f4a :: f4b :: f2a :: f0a :: bF }) [6] rfl (by kernel_rfl) (by kernel_rfl) ⟨⟨rfl, trivial⟩, trivial⟩ ⟨?_, trivial⟩
     refine cstY rfl rfl rfl ?_
     refine zad 6 (vs := [.string sP, .string sQ]) rfl rfl (fun g2 => ?_)
     refine zaa [] (za2 Tf hf (some ⟨g2, 0, none⟩)) rfl trivial rfl rfl (fun w h => ⟨⟨h.2.2.2.2.2.1.1, ⟨h.1, fun h => (by cases h), Nat.le_refl _, by decide⟩⟩, h.2.1⟩) (fun q _ => ?_) (fun q hq => ?_)
     ·obtain ⟨⟨A1, c1⟩, dn, xvk, xvn, xvs, xvla, xvlc, xvls, xvaa, xvac, xvus⟩ := q
      exact ⟨rfl, rfl⟩
     obtain ⟨⟨A1, c1⟩, dn, xik, xin, xis, xila, xilc, xils, xiaa, xiac, xius⟩ := q
     obtain ⟨hq1, hi⟩ := hq
     have hi : (TT.mk xik xin xis xila xilc xils xiaa xiac xius).tm = cT sQ := hi
     obtain ⟨u0, u1, hdn, hp, hq⟩ := zbi dn hq1
     have hdn : dn = [(sP, u0), (sQ, u1)] := hdn
     subst hdn
     obtain ⟨xpk, xpn, xps, xpla, xplc, xpls, xpaa, xpac, xpus⟩ := u0
     obtain ⟨xqk, xqn, xqs, xqla, xqlc, xqls, xqaa, xqac, xqus⟩ := u1
     let Tp : TT := (TT.mk xpk xpn xps xpla xplc xpls xpaa xpac xpus)
     let Tq : TT := (TT.mk xqk xqn xqs xqla xqlc xqls xqaa xqac xqus)
     let Ti : TT := (TT.mk xik xin xis xila xilc xils xiaa xiac xius)
     let x6 : Nat × SV := (63, .tup [.one (.v (.slice A1 2 c1)), .agg (Ti.cells.map SA.v), .one (.v (.bool true))])
     let m6a : Nat × LB := (6, .dead)
     let f6a : World -> Prop := zax A1 [(sP, Tp), (sQ, Tq)] Ti
     let f6b : World -> Prop := fun w => SlAt w (some ⟨g2, 0, none⟩) [.string sP, .string sQ]
     let x7 : Nat × SV := (56, .tup [.one (.v (.slice A1 2 c1)), .agg (Ti.cells.map SA.v), .one (.v (.bool true))])
     refine zae 7 x7.2 _ (by kernel_rfl) ⟨⟨rfl, trivial⟩, trivial⟩ (by kernel_rfl) rfl rfl rfl ?_
     let x8 : Nat × SV := (64, .one (.v (.slice A1 2 c1)))
     refine zae 8 x8.2 _ (by kernel_rfl) ⟨⟨rfl, trivial⟩, trivial⟩ (by kernel_rfl) rfl rfl rfl ?_
     let x9 : Nat × SV := (65, .agg (Ti.cells.map SA.v))
     refine zae 9 x9.2 _ (by kernel_rfl) ⟨⟨rfl, trivial⟩, trivial⟩ (by kernel_rfl) rfl rfl rfl ?_
     let x10 : Nat × SV := (66, .one (.v (.bool true)))
     refine zae 10 x10.2 _ (by kernel_rfl) ⟨⟨rfl, trivial⟩, trivial⟩ (by kernel_rfl) rfl rfl rfl ?_
     let x12 : Nat × SV := (13, .one (.v (.slice A1 2 c1)))
     refine zae 12 x12.2 _ (by kernel_rfl) ⟨⟨rfl, trivial⟩, trivial⟩ (by kernel_rfl) rfl rfl rfl ?_
     refine zag ({ s := x12 :: x10 :: x9 :: x8 :: x7 :: x6 :: x4 :: x3 :: x2 :: x11 :: x5 :: x0 :: bS, m := m6a :: m4a :: m3a :: m11a :: m5a :: bM, k := 9, f := f6a :: f6b :: f4a :: f4b :: f2a :: f0a :: bF }) [13] rfl (by kernel_rfl) (by kernel_rfl) ⟨⟨rfl, trivial⟩, trivial⟩ ⟨?_, trivial⟩
     refine cstY rfl rfl rfl ?_
     let m13a : Nat × LB := (7, .cells 41 (Ti.cells.map SA.v))
     let x14 : Nat × SV := (15, .one (.v (.bool true)))
     refine zae 14 x14.2 _ (by kernel_rfl) ⟨⟨rfl, trivial⟩, trivial⟩ (by kernel_rfl) rfl rfl rfl ?_
     refine zau _ rfl (by kernel_rfl) ⟨⟨rfl, trivial⟩, trivial⟩ ?_
     exact ⟨((A1, c1), (Tp, Tq), Ti), ⟨hp, hq, hi⟩, (zab [(0, .blk 0), (1, .blk 1), (2, .blk 2), (3, .blk 3), (4, .blk 4), (5, .blk 5), (6, .blk 7)] rfl rfl rfl rfl (leB rfl) ⟨⟨_, rfl, rfl⟩, ⟨_, rfl, rfl⟩, ⟨_, rfl, rfl⟩, ⟨_, rfl, rfl⟩, ⟨_, rfl, rfl⟩, ⟨_, rfl, rfl⟩, ⟨_, rfl, rfl⟩, ⟨_, rfl, rfl⟩, ⟨_, rfl, rfl⟩, ⟨_, rfl, rfl⟩, ⟨_, rfl, rfl⟩, ⟨_, rfl, rfl⟩, ⟨_, rfl, rfl⟩, trivial⟩ ⟨⟨_, rfl, rfl⟩, ⟨_, rfl, rfl⟩, ⟨_, rfl, rfl⟩, ⟨_, rfl, rfl⟩, ⟨_, rfl, rfl⟩, ⟨_, rfl, rfl⟩, ⟨_, rfl, rfl⟩, trivial⟩ ⟨⟨amG.up _, fun w h => h.2.2.2.2.2.2.1⟩, ⟨zax.up _ _ _, fun w h => h.1⟩, trivial⟩)⟩
   ·skip
    refine cstY rfl rfl rfl ?_
    let x11 : Nat × SV := (14, .one (.p 6 0))
    let m11a : Nat × LB := (6, .cells 41 zan)
    refine zag ({ s := x11 :: x0 :: bS, m := m11a :: bM, k := 7, f := f0a :: bF }) [2, 5] rfl (by kernel_rfl) (by kernel_rfl) ⟨⟨rfl, rfl⟩, trivial⟩ ⟨?_, ?_, trivial⟩
    ·skip
     refine cstY rfl rfl rfl ?_
     refine zaa [] (zb2 0) rfl trivial rfl rfl (fun _ _ => trivial) (fun _ _ => ⟨rfl, rfl⟩) (fun _ _ => ?_)
     let x2 : Nat × SV := (59, ttA (vN 0))
     let f2a : World -> Prop := fun _ => True
     refine zag ({ s := x2 :: x11 :: x0 :: bS, m := m11a :: bM, k := 7, f := f2a :: f0a :: bF }) [3, 5] rfl (by kernel_rfl) (by kernel_rfl) ⟨⟨rfl, rfl⟩, trivial⟩ ⟨?_, ?_, trivial⟩
     ·skip
      refine cstY rfl rfl rfl ?_
      let x3 : Nat × SV := (60, .one (.sl 7 0 2 2))
      let m3a : Nat × LB := (7, .cells 41 (((cN sA).cells ++ (vN 0).cells).map SA.v))
      refine zag ({ s := x3 :: x2 :: x11 :: x0 :: bS, m := m3a :: m11a :: bM, k := 8, f := f2a :: f0a :: bF }) [4, 5] rfl (by kernel_rfl) (by kernel_rfl) ⟨⟨rfl, trivial⟩, trivial⟩ ⟨?_, ?_, trivial⟩
      ·skip
       refine cstY rfl rfl rfl ?_
       refine zad 7 (vs := (cN sA).cells ++ (vN 0).cells) rfl rfl (fun g => ?_)
       refine zaa [] (za1 (some ⟨g, 0, none⟩)) rfl trivial rfl rfl (fun w h => ⟨zbn h.1 (cNa w) (vN0 w), vN0 w⟩) (fun x _ => ?_) (fun x hx => ?_)
       ·obtain ⟨xvk, xvn, xvs, xvla, xvlc, xvls, xvaa, xvac, xvus⟩ := x
        exact ⟨rfl, rfl⟩
       have hf : x.tm = tO := hx
       obtain ⟨xfk, xfn, xfs, xfla, xflc, xfls, xfaa, xfac, xfus⟩ := x
       let Tf : TT := (TT.mk xfk xfn xfs xfla xflc xfls xfaa xfac xfus)
       let x4 : Nat × SV := (61, ttA Tf)
       let m4a : Nat × LB := (7, .dead)
       let f4a : World -> Prop := fun w => TTIn w Tf
       let f4b : World -> Prop := fun w => SlAt w (some ⟨g, 0, none⟩) ((cN sA).cells ++ (vN 0).cells)
       refine zag ({ s := x4 :: x3 :: x2 :: x11 :: x0 :: bS, m := m4a :: m3a :: m11a :: bM, k := 8, f := f4a :: f4b :: f2a :: f0a :: bF }) [5] rfl (by kernel_rfl) (by kernel_rfl) ⟨⟨rfl, trivial⟩, trivial⟩ ⟨?_, trivial⟩
       refine cstY rfl rfl rfl ?_
       let x5 : Nat × SV := (62, .one (.sl 8 0 2 2))
       let m5a : Nat × LB := (8, .cells 9 [.v (.string sP), .v (.string sQ)])
       refine zag ({ s := x5 :: x4 :: x3 :: x2 :: x11 :: x0 :: bS, m := m5a :: m4a :: m3a :: m11a :: bM, k := 9, f := f4a :: f4b :: f2a :: f0a :: bF }) [6] rfl (by kernel_rfl) (by kernel_rfl) ⟨⟨rfl, trivial⟩, trivial⟩ ⟨?_, trivial⟩
       refine cstY rfl rfl rfl ?_
       refine zad 8 (vs := [.string sP, .string sQ]) rfl rfl (fun g2 => ?_)
       refine zaa [] (za2 Tf hf (some ⟨g2, 0, none⟩)) rfl trivial rfl rfl (fun w h => ⟨⟨h.2.2.2.2.2.1.1, ⟨h.1, fun h => (by cases h), Nat.le_refl _, by decide⟩⟩, h.2.1⟩) (fun q _ => ?_) (fun q hq => ?_)
       ·obtain ⟨⟨A1, c1⟩, dn, xvk, xvn, xvs, xvla, xvlc, xvls, xvaa, xvac, xvus⟩ := q
        exact ⟨rfl, rfl⟩
       obtain ⟨⟨A1, c1⟩, dn, xik, xin, xis, xila, xilc, xils, xiaa, xiac, xius⟩ := q
       obtain ⟨hq1, hi⟩ := hq
       have hi : (TT.mk xik xin xis xila xilc xils xiaa xiac xius).tm = cT sQ := hi
       obtain ⟨u0, u1, hdn, hp, hq⟩ := zbi dn hq1
       have hdn : dn = [(sP, u0), (sQ, u1)] := hdn
       subst hdn
       obtain ⟨xpk, xpn, xps, xpla, xplc, xpls, xpaa, xpac, xpus⟩ := u0
       obtain ⟨xqk, xqn, xqs, xqla, xqlc, xqls, xqaa, xqac, xqus⟩ := u1
       let Tp : TT := (TT.mk xpk xpn xps xpla xplc xpls xpaa xpac xpus)
       let Tq : TT := (TT.mk xqk xqn xqs xqla xqlc xqls xqaa xqac xqus)
       let Ti : TT := (TT.mk xik xin xis xila xilc xils xiaa xiac xius)
       let x6 : Nat × SV := (63, .tup [.one (.v (.slice A1 2 c1)), .agg (Ti.cells.map SA.v), .one (.v (.bool true))])
       let m6a : Nat × LB := (8, .dead)
       let f6a : World -> Prop := zax A1 [(sP, Tp), (sQ, Tq)] Ti
       let f6b : World -> Prop := fun w => SlAt w (some ⟨g2, 0, none⟩) [.string sP, .string sQ]
       let x7 : Nat × SV := (56, .tup [.one (.v (.slice A1 2 c1)), .agg (Ti.cells.map SA.v), .one (.v (.bool true))])
       refine zae 7 x7.2 _ (by kernel_rfl) ⟨⟨rfl, trivial⟩, trivial⟩ (by kernel_rfl) rfl rfl rfl ?_
       let x8 : Nat × SV := (64, .one (.v (.slice A1 2 c1)))
       refine zae 8 x8.2 _ (by kernel_rfl) ⟨⟨rfl, trivial⟩, trivial⟩ (by kernel_rfl) rfl rfl rfl ?_
       let x9 : Nat × SV := (65, .agg (Ti.cells.map SA.v))
       refine zae 9 x9.2 _ (by kernel_rfl) ⟨⟨rfl, trivial⟩, trivial⟩ (by kernel_rfl) rfl rfl rfl ?_
       let x10 : Nat × SV := (66, .one (.v (.bool true)))
       refine zae 10 x10.2 _ (by kernel_rfl) ⟨⟨rfl, trivial⟩, trivial⟩ (by kernel_rfl) rfl rfl rfl ?_
       let x12 : Nat × SV := (13, .one (.v (.slice A1 2 c1)))
       refine zae 12 x12.2 _ (by kernel_rfl) ⟨⟨rfl, trivial⟩, trivial⟩ (by kernel_rfl) rfl rfl rfl ?_
       refine zag ({ s := x12 :: x10 :: x9 :: x8 :: x7 :: x6 :: x5 :: x4 :: x3 :: x2 :: x11 :: x0 :: bS, m := m6a :: m5a :: m4a :: m3a :: m11a :: bM, k := 9, f := f6a :: f6b :: f4a :: f4b :: f2a :: f0a :: bF }) [13] rfl (by kernel_rfl) (by kernel_rfl) ⟨⟨rfl, trivial⟩, trivial⟩ ⟨?_, trivial⟩
       refine cstY rfl rfl rfl ?_
       let m13a : Nat × LB := (6, .cells 41 (Ti.cells.map SA.v))
       let x14 : Nat × SV := (15, .one (.v (.bool true)))
       refine zae 14 x14.2 _ (by kernel_rfl) ⟨⟨rfl, trivial⟩, trivial⟩ (by kernel_rfl) rfl rfl rfl ?_
       refine zau _ rfl (by kernel_rfl) ⟨⟨rfl, trivial⟩, trivial⟩ ?_
       exact ⟨((A1, c1), (Tp, Tq), Ti), ⟨hp, hq, hi⟩, (zab [(0, .blk 0), (1, .blk 1), (2, .blk 2), (3, .blk 3), (4, .blk 4), (5, .blk 5), (6, .blk 6)] rfl rfl rfl rfl (leB rfl) ⟨⟨_, rfl, rfl⟩, ⟨_, rfl, rfl⟩, ⟨_, rfl, rfl⟩, ⟨_, rfl, rfl⟩, ⟨_, rfl, rfl⟩, ⟨_, rfl, rfl⟩, ⟨_, rfl, rfl⟩, ⟨_, rfl, rfl⟩, ⟨_, rfl, rfl⟩, ⟨_, rfl, rfl⟩, ⟨_, rfl, rfl⟩, ⟨_, rfl, rfl⟩, ⟨_, rfl, rfl⟩, trivial⟩ ⟨⟨_, rfl, rfl⟩, ⟨_, rfl, rfl⟩, ⟨_, rfl, rfl⟩, ⟨_, rfl, rfl⟩, ⟨_, rfl, rfl⟩, ⟨_, rfl, rfl⟩, ⟨_, rfl, rfl⟩, trivial⟩ ⟨⟨amG.up _, fun w h => h.2.2.2.2.2.2.1⟩, ⟨zax.up _ _ _, fun w h => h.1⟩, trivial⟩)⟩
      ·skip
       refine cstY rfl rfl rfl ?_
       let x5 : Nat × SV := (62, .one (.sl 8 0 2 2))
       let m5a : Nat × LB := (8, .cells 9 [.v (.string sP), .v (.string sQ)])
       refine zag ({ s := x5 :: x3 :: x2 :: x11 :: x0 :: bS, m := m5a :: m3a :: m11a :: bM, k := 9, f := f2a :: f0a :: bF }) [4] rfl (by kernel_rfl) (by kernel_rfl) ⟨⟨rfl, trivial⟩, trivial⟩ ⟨?_, trivial⟩
       refine cstY rfl rfl rfl ?_
       refine zad 7 (vs := (cN sA).cells ++ (vN 0).cells) rfl rfl (fun g => ?_)
       refine zaa [] (za1 (some ⟨g, 0, none⟩)) rfl trivial rfl rfl (fun w h => ⟨zbn h.1 (cNa w) (vN0 w), vN0 w⟩) (fun x _ => ?_) (fun x hx => ?_)
       ·obtain ⟨xvk, xvn, xvs, xvla, xvlc, xvls, xvaa, xvac, xvus⟩ := x
        exact ⟨rfl, rfl⟩
       have hf : x.tm = tO := hx
       obtain ⟨xfk, xfn, xfs, xfla, xflc, xfls, xfaa, xfac, xfus⟩ := x
       let Tf : TT := (TT.mk xfk xfn xfs xfla xflc xfls xfaa xfac xfus)
       let x4 : Nat × SV := (61, ttA Tf)
       let m4a : Nat × LB := (7, .dead)
       let f4a : World -> Prop := fun w => TTIn w Tf
       let f4b : World -> Prop := fun w => SlAt w (some ⟨g, 0, none⟩) ((cN sA).cells ++ (vN 0).cells)
       refine zag ({ s := x4 :: x5 :: x3 :: x2 :: x11 :: x0 :: bS, m := m4a :: m5a :: m3a :: m11a :: bM, k := 9, f := f4a :: f4b :: f2a :: f0a :: bF }) [6] rfl (by kernel_rfl) (by kernel_rfl) ⟨⟨rfl, trivial⟩, trivial⟩ ⟨?_, trivial⟩
       refine cstY rfl rfl rfl ?_
       refine zad 8 (vs := [.string sP, .string sQ]) rfl rfl (fun g2 => ?_)
       refine zaa [] (za2 Tf hf (some ⟨g2, 0, none⟩)) rfl trivial rfl rfl (fun w h => ⟨⟨h.2.2.2.2.2.1.1, ⟨h.1, fun h => (by cases h), Nat.le_refl _, by decide⟩⟩, h.2.1⟩) (fun q _ => ?_) (fun q hq => ?_)
       ·obtain ⟨⟨A1, c1⟩, dn, xvk, xvn, xvs, xvla, xvlc, xvls, xvaa, xvac, xvus⟩ := q
        exact ⟨rfl, rfl⟩
       obtain ⟨⟨A1, c1⟩, dn, xik, xin, xis, xila, xilc, xils, xiaa, xiac, xius⟩ := q
       obtain ⟨hq1, hi⟩ := hq
       have hi : (TT.mk xik xin xis xila xilc xils xiaa xiac xius).tm = cT sQ := hi
       obtain ⟨u0, u1, hdn, hp, hq⟩ := zbi dn hq1
       have hdn : dn = [(sP, u0), (sQ, u1)] := hdn
       subst hdn
       obtain ⟨xpk, xpn, xps, xpla, xplc, xpls, xpaa, xpac, xpus⟩ := u0
       obtain ⟨xqk, xqn, xqs, xqla, xqlc, xqls, xqaa, xqac, xqus⟩ := u1
       let Tp : TT := (TT.mk xpk xpn xps xpla xplc xpls xpaa xpac xpus)
       let Tq : TT := (TT.mk xqk xqn xqs xqla xqlc xqls xqaa xqac xqus)
       let Ti : TT := (TT.mk xik xin xis xila xilc xils xiaa xiac xius)
       let x6 : Nat × SV := (63, .tup [.one (.v (.slice A1 2 c1)), .agg (Ti.cells.map SA.v), .one (.v (.bool true))])
       let m6a : Nat × LB := (8, .dead)
       let f6a : World -> Prop := zax A1 [(sP, Tp), (sQ, Tq)] Ti
       let f6b : World -> Prop := fun w => SlAt w (some ⟨g2, 0, none⟩) [.string sP, .string sQ]
       let x7 : Nat × SV := (56, .tup [.one (.v (.slice A1 2 c1)), .agg (Ti.cells.map SA.v), .one (.v (.bool true))])
       refine zae 7 x7.2 _ (by kernel_rfl) ⟨⟨rfl, trivial⟩, trivial⟩ (by kernel_rfl) rfl rfl rfl ?_
       let x8 : Nat × SV := (64, .one (.v (.slice A1 2 c1)))
       refine zae 8 x8.2 _ (by kernel_rfl) ⟨⟨rfl, trivial⟩, trivial⟩ (by kernel_rfl) rfl rfl rfl ?_
       let x9 : Nat × SV := (65, .agg (Ti.cells.map SA.v))
       refine zae 9 x9.2 _ (by kernel_rfl) ⟨⟨rfl, trivial⟩, trivial⟩ (by kernel_rfl) rfl rfl rfl ?_
       let x10 : Nat × SV := (66, .one (.v (.bool true)))
       refine zae 10 x10.2 _ (by kernel_rfl) ⟨⟨rfl, trivial⟩, trivial⟩ (by kernel_rfl) rfl rfl rfl ?_
       let x12 : Nat × SV := (13, .one (.v (.slice A1 2 c1)))
       refine zae 12 x12.2 _ (by kernel_rfl) ⟨⟨rfl, trivial⟩, trivial⟩ (by kernel_rfl) rfl rfl rfl ?_
       refine zag ({ s := x12 :: x10 :: x9 :: x8 :: x7 :: x6 :: x4 :: x5 :: x3 :: x2 :: x11 :: x0 :: bS, m := m6a :: m4a :: m5a :: m3a :: m11a :: bM, k := 9, f := f6a :: f6b :: f4a :: f4b :: f2a :: f0a :: bF }) [13] rfl (by kernel_rfl) (by kernel_rfl) ⟨⟨rfl, trivial⟩, trivial⟩ ⟨?_, trivial⟩
       refine cstY rfl rfl rfl ?_
       let m13a : Nat × LB := (6, .cells 41 (Ti.cells.map SA.v))
       let x14 : Nat × SV := (15, .one (.v (.bool true)))
       refine zae 14 x14.2 _ (by kernel_rfl) ⟨⟨rfl, trivial⟩, trivial⟩ (by kernel_rfl) rfl rfl rfl ?_
       refine zau _ rfl (by kernel_rfl) ⟨⟨rfl, trivial⟩, trivial⟩ ?_
       exact ⟨((A1, c1), (Tp, Tq), Ti), ⟨hp, hq, hi⟩, (zab [(0, .blk 0), (1, .blk 1), (2, .blk 2), (3, .blk 3), (4, .blk 4), (5, .blk 5), (6, .blk 6)] rfl rfl rfl rfl (leB rfl) ⟨⟨_, rfl, rfl⟩, ⟨_, rfl, rfl⟩, ⟨_, rfl, rfl⟩, ⟨_, rfl, rfl⟩, ⟨_, rfl, rfl⟩, ⟨_, rfl, rfl⟩, ⟨_, rfl, rfl⟩, ⟨_, rfl, rfl⟩, ⟨_, rfl, rfl⟩, ⟨_, rfl, rfl⟩, ⟨_, rfl, rfl⟩, ⟨_, rfl, rfl⟩, ⟨_, rfl, rfl⟩, trivial⟩ ⟨⟨_, rfl, rfl⟩, ⟨_, rfl, rfl⟩, ⟨_, rfl, rfl⟩, ⟨_, rfl, rfl⟩, ⟨_, rfl, rfl⟩, ⟨_, rfl, rfl⟩, ⟨_, rfl, rfl⟩, trivial⟩ ⟨⟨amG.up _, fun w h => h.2.2.2.2.2.2.1⟩, ⟨zax.up _ _ _, fun w h => h.1⟩, trivial⟩)⟩
     ·skip
      refine cstY rfl rfl rfl ?_
      let x5 : Nat × SV := (62, .one (.sl 7 0 2 2))
      let m5a : Nat × LB := (7, .cells 9 [.v (.string sP), .v (.string sQ)])
      refine zag ({ s := x5 :: x2 :: x11 :: x0 :: bS, m := m5a :: m11a :: bM, k := 8, f := f2a :: f0a :: bF }) [3] rfl (by kernel_rfl) (by kernel_rfl) ⟨⟨rfl, rfl⟩, trivial⟩ ⟨?_, trivial⟩
      refine cstY rfl rfl rfl ?_
      let x3 : Nat × SV := (60, .one (.sl 8 0 2 2))
      let m3a : Nat × LB := (8, .cells 41 (((cN sA).cells ++ (vN 0).cells).map SA.v))
      refine zag ({ s := x3 :: x5 :: x2 :: x11 :: x0 :: bS, m := m3a :: m5a :: m11a :: bM, k := 9, f := f2a :: f0a :: bF }) [4] rfl (by kernel_rfl) (by kernel_rfl) ⟨⟨rfl, trivial⟩, trivial⟩ ⟨?_, trivial⟩
      refine cstY rfl rfl rfl ?_
      refine zad 8 (vs := (cN sA).cells ++ (vN 0).cells) rfl rfl (fun g => ?_)
      refine zaa [] (za1 (some ⟨g, 0, none⟩)) rfl trivial rfl rfl (fun w h => ⟨zbn h.1 (cNa w) (vN0 w), vN0 w⟩) (fun x _ => ?_) (fun x hx => ?_)
      ·obtain ⟨xvk, xvn, xvs, xvla, xvlc, xvls, xvaa, xvac, xvus⟩ := x
       exact ⟨rfl, rfl⟩
      have hf : x.tm = tO := hx
      obtain ⟨xfk, xfn, xfs, xfla, xflc, xfls, xfaa, xfac, xfus⟩ := x
      let Tf : TT := (TT.mk xfk xfn xfs xfla xflc xfls xfaa xfac xfus)
      let x4 : Nat × SV := (61, ttA Tf)
      let m4a : Nat × LB := (8, .dead)
      let f4a : World -> Prop := fun w => TTIn w Tf
      let f4b : World -> Prop := fun w => SlAt w (some ⟨g, 0, none⟩) ((cN sA).cells ++ (vN 0).cells)
      refine zag ({ s := x4 :: x3 :: x5 :: x2 :: x11 :: x0 :: bS, m := m4a :: m3a :: m5a :: m11a :: bM, k := 9, f := f4a :: f4b :: f2a :: f0a :: bF }) [6] rfl (by kernel_rfl) (by kernel_rfl) ⟨⟨rfl, trivial⟩, trivial⟩ ⟨?_, trivial⟩
      refine cstY rfl rfl rfl ?_
      refine zad 7 (vs := [.string sP, .string sQ]) rfl rfl (fun g2 => ?_)
      refine zaa [] (za2 Tf hf (some ⟨g2, 0, none⟩)) rfl trivial rfl rfl (fun w h => ⟨⟨h.2.2.2.2.2.1.1, ⟨h.1, fun h => (by cases h), Nat.le_refl _, by decide⟩⟩, h.2.1⟩) (fun q _ => ?_) (fun q hq => ?_)
      ·obtain ⟨⟨A1, c1⟩, dn, xvk, xvn, xvs, xvla, xvlc, xvls, xvaa, xvac, xvus⟩ := q
       exact ⟨rfl, rfl⟩
      obtain ⟨⟨A1, c1⟩, dn, xik, xin, xis, xila, xilc, xils, xiaa, xiac, xius⟩ := q
      obtain ⟨hq1, hi⟩ := hq
      have hi : (TT.mk xik xin xis xila xilc xils xiaa xiac xius).tm = cT sQ := hi
      obtain ⟨u0, u1, hdn, hp, hq⟩ := zbi dn hq1
      have hdn : dn = [(sP, u0), (sQ, u1)] := hdn
      subst hdn
      obtain ⟨xpk, xpn, xps, xpla, xplc, xpls, xpaa, xpac, xpus⟩ := u0
      obtain ⟨xqk, xqn, xqs, xqla, xqlc, xqls, xqaa, xqac, xqus⟩ := u1
      let Tp : TT := (TT.mk xpk xpn xps xpla xplc xpls xpaa xpac xpus)
      let Tq : TT := (TT.mk xqk xqn xqs xqla xqlc xqls xqaa xqac xqus)
      let Ti : TT := (TT.mk xik xin xis xila xilc xils xiaa xiac xius)
      let x6 : Nat × SV := (63, .tup [.one (.v (.slice A1 2 c1)), .agg (Ti.cells.map SA.v), .one (.v (.bool true))])
      let m6a : Nat × LB := (7, .dead)
      let f6a : World -> Prop := zax A1 [(sP, Tp), (sQ, Tq)] Ti
      let f6b : World -> Prop := fun w => SlAt w (some ⟨g2, 0, none⟩) [.string sP, .string sQ]
      let x7 : Nat × SV := (56, .tup [.one (.v (.slice A1 2 c1)), .agg (Ti.cells.map SA.v), .one (.v (.bool true))])
      refine zae 7 x7.2 _ (by kernel_rfl) ⟨⟨rfl, trivial⟩, trivial⟩ (by kernel_rfl) rfl rfl rfl ?_
      let x8 : Nat × SV := (64, .one (.v (.slice A1 2 c1)))
      refine zae 8 x8.2 _ (by kernel_rfl) ⟨⟨rfl, trivial⟩, trivial⟩ (by kernel_rfl) rfl rfl rfl ?_
      let x9 : Nat × SV := (65, .agg (Ti.cells.map SA.v))
      refine zae 9 x9.2 _ (by kernel_rfl) ⟨⟨rfl, trivial⟩, trivial⟩ (by kernel_rfl) rfl rfl rfl ?_
      let x10 : Nat × SV := (66, .one (.v (.bool true)))
      refine zae 10 x10.2 _ (by kernel_rfl) ⟨⟨rfl, trivial⟩, trivial⟩ (by kernel_rfl) rfl rfl rfl ?_
      let x12 : Nat × SV := (13, .one (.v (.slice A1 2 c1)))
      refine zae 12 x12.2 _ (by kernel_rfl) ⟨⟨rfl, trivial⟩, trivial⟩ (by kernel_rfl) rfl rfl rfl ?_
      refine zag ({ s := x12 :: x10 :: x9 :: x8 :: x7 :: x6 :: x4 :: x3 :: x5 :: x2 :: x11 :: x0 :: bS, m := m6a :: m4a :: m3a :: m5a :: m11a :: bM, k := 9, f := f6a :: f6b :: f4a :: f4b :: f2a :: f0a :: bF }) [13] rfl (by kernel_rfl) (by kernel_rfl) ⟨⟨rfl, trivial⟩, trivial⟩ ⟨?_, trivial⟩
      refine cstY rfl rfl rfl ?_
      let m13a : Nat × LB := (6, .cells 41 (Ti.cells.map SA.v))
      let x14 : Nat × SV := (15, .one (.v (.bool true)))
      refine zae 14 x14.2 _ (by kernel_rfl) ⟨⟨rfl, trivial⟩, trivial⟩ (by kernel_rfl) rfl rfl rfl ?_
      refine zau _ rfl (by kernel_rfl) ⟨⟨rfl, trivial⟩, trivial⟩ ?_
      exact ⟨((A1, c1), (Tp, Tq), Ti), ⟨hp, hq, hi⟩, (zab [(0, .blk 0), (1, .blk 1), (2, .blk 2), (3, .blk 3), (4, .blk 4), (5, .blk 5), (6, .blk 6)] rfl rfl rfl rfl (leB rfl) ⟨⟨_, rfl, rfl⟩, ⟨_, rfl, rfl⟩, ⟨_, rfl, rfl⟩, ⟨_, rfl, rfl⟩, ⟨_, rfl, rfl⟩, ⟨_, rfl, rfl⟩, ⟨_, rfl, rfl⟩, ⟨_, rfl, rfl⟩, ⟨_, rfl, rfl⟩, ⟨_, rfl, rfl⟩, ⟨_, rfl, rfl⟩, ⟨_, rfl, rfl⟩, ⟨_, rfl, rfl⟩, trivial⟩ ⟨⟨_, rfl, rfl⟩, ⟨_, rfl, rfl⟩, ⟨_, rfl, rfl⟩, ⟨_, rfl, rfl⟩, ⟨_, rfl, rfl⟩, ⟨_, rfl, rfl⟩, ⟨_, rfl, rfl⟩, trivial⟩ ⟨⟨amG.up _, fun w h => h.2.2.2.2.2.2.1⟩, ⟨zax.up _ _ _, fun w h => h.1⟩, trivial⟩)⟩
    ·skip
     refine cstY rfl rfl rfl ?_
     let x5 : Nat × SV := (62, .one (.sl 7 0 2 2))
     let m5a : Nat × LB := (7, .cells 9 [.v (.string sP), .v (.string sQ)])
     refine zag ({ s := x5 :: x11 :: x0 :: bS, m := m5a :: m11a :: bM, k := 8, f := f0a :: bF }) [2] rfl (by kernel_rfl) (by kernel_rfl) ⟨⟨rfl, rfl⟩, trivial⟩ ⟨?_, trivial⟩
     refine cstY rfl rfl rfl ?_
     refine zaa [] (zb2 0) rfl trivial rfl rfl (fun _ _ => trivial) (fun _ _ => ⟨rfl, rfl⟩) (fun _ _ => ?_)
     let x2 : Nat × SV := (59, ttA (vN 0))
     let f2a : World -> Prop := fun _ => True
     refine zag ({ s := x2 :: x5 :: x11 :: x0 :: bS, m := m5a :: m11a :: bM, k := 8, f := f2a :: f0a :: bF }) [3] rfl (by kernel_rfl) (by kernel_rfl) ⟨⟨rfl, rfl⟩, trivial⟩ ⟨?_, trivial⟩
     refine cstY rfl rfl rfl ?_
     let x3 : Nat × SV := (60, .one (.sl 8 0 2 2))
     let m3a : Nat × LB := (8, .cells 41 (((cN sA).cells ++ (vN 0).cells).map SA.v))
     refine zag ({ s := x3 :: x2 :: x5 :: x11 :: x0 :: bS, m := m3a :: m5a :: m11a :: bM, k := 9, f := f2a :: f0a :: bF }) [4] rfl (by kernel_rfl) (by kernel_rfl) ⟨⟨rfl, trivial⟩, trivial⟩ ⟨?_, trivial⟩
     refine cstY rfl rfl rfl ?_
     refine zad 8 (vs := (cN sA).cells ++ (vN 0).cells) rfl rfl (fun g => ?_)
     refine zaa [] (za1 (some ⟨g, 0, none⟩)) rfl trivial rfl rfl (fun w h => ⟨zbn h.1 (cNa w) (vN0 w), vN0 w⟩) (fun x _ => ?_) (fun x hx => ?_)
     ·obtain ⟨xvk, xvn, xvs, xvla, xvlc, xvls, xvaa, xvac, xvus⟩ := x
      exact ⟨rfl, rfl⟩
     have hf : x.tm = tO := hx
     obtain ⟨xfk, xfn, xfs, xfla, xflc, xfls, xfaa, xfac, xfus⟩ := x
     let Tf : TT := (TT.mk xfk xfn xfs xfla xflc xfls xfaa xfac xfus)
     let x4 : Nat × SV := (61, ttA Tf)
     let m4a : Nat × LB := (8, .dead)
     let f4a : World -> Prop := fun w => TTIn w Tf
     let f4b : World -> Prop := fun w => SlAt w (some ⟨g, 0, none⟩) ((cN sA).cells ++ (vN 0).cells)
     refine zag ({ s := x4 :: x3 :: x2 :: x5 :: x11 :: x0 :: bS, m := m4a :: m3a :: m5a :: m11a :: bM, k := 9, f := f4a :: f4b :: f2a :: f0a :: bF }) [6] rfl (by kernel_rfl) (by kernel_rfl) ⟨⟨rfl, trivial⟩, trivial⟩ ⟨?_, trivial⟩
     refine cstY rfl rfl rfl ?_
     refine zad 7 (vs := [.string sP, .string sQ]) rfl rfl (fun g2 => ?_)
     refine zaa [] (za2 Tf hf (some ⟨g2, 0, none⟩)) rfl trivial rfl rfl (fun w h => ⟨⟨h.2.2.2.2.2.1.1, ⟨h.1, fun h => (by cases h), Nat.le_refl _, by decide⟩⟩, h.2.1⟩) (fun q _ => ?_) (fun q hq => ?_)
     ·obtain ⟨⟨A1, c1⟩, dn, xvk, xvn, xvs, xvla, xvlc, xvls, xvaa, xvac, xvus⟩ := q
      exact ⟨rfl, rfl⟩
     obtain ⟨⟨A1, c1⟩, dn, xik, xin, xis, xila, xilc, xils, xiaa, xiac, xius⟩ := q
     obtain ⟨hq1, hi⟩ := hq
     have hi : (TT.mk xik xin xis xila xilc xils xiaa xiac xius).tm = cT sQ := hi
     obtain ⟨u0, u1, hdn, hp, hq⟩ := zbi dn hq1
     have hdn : dn = [(sP, u0), (sQ, u1)] := hdn
     subst hdn
     obtain ⟨xpk, xpn, xps, xpla, xplc, xpls, xpaa, xpac, xpus⟩ := u0
     obtain ⟨xqk, xqn, xqs, xqla, xqlc, xqls, xqaa, xqac, xqus⟩ := u1
     let Tp : TT := (TT.mk xpk xpn xps xpla xplc xpls xpaa xpac xpus)
     let Tq : TT := (TT.mk xqk xqn xqs xqla xqlc xqls xqaa xqac xqus)
     let Ti : TT := (TT.mk xik xin xis xila xilc xils xiaa xiac xius)
     let x6 : Nat × SV := (63, .tup [.one (.v (.slice A1 2 c1)), .agg (Ti.cells.map SA.v), .one (.v (.bool true))])
     let m6a : Nat × LB := (7, .dead)
     let f6a : World -> Prop := zax A1 [(sP, Tp), (sQ, Tq)] Ti
     let f6b : World -> Prop := fun w => SlAt w (some ⟨g2, 0, none⟩) [.string sP, .string sQ]
     let x7 : Nat × SV := (56, .tup [.one (.v (.slice A1 2 c1)), .agg (Ti.cells.map SA.v), .one (.v (.bool true))])
     refine zae 7 x7.2 _ (by kernel_rfl) ⟨⟨rfl, trivial⟩, trivial⟩ (by kernel_rfl) rfl rfl rfl ?_
     let x8 : Nat × SV := (64, .one (.v (.slice A1 2 c1)))
     refine zae 8 x8.2 _ (by kernel_rfl) ⟨⟨rfl, trivial⟩, trivial⟩ (by kernel_rfl) rfl rfl rfl ?_
     let x9 : Nat × SV := (65, .agg (Ti.cells.map SA.v))
     refine zae 9 x9.2 _ (by kernel_rfl) ⟨⟨rfl, trivial⟩, trivial⟩ (by kernel_rfl) rfl rfl rfl ?_
     let x10 : Nat × SV := (66, .one (.v (.bool true)))
     refine zae 10 x10.2 _ (by kernel_rfl) ⟨⟨rfl, trivial⟩, trivial⟩ (by kernel_rfl) rfl rfl rfl ?_
     let x12 : Nat × SV := (13, .one (.v (.slice A1 2 c1)))
     refine zae 12 x12.2 _ (by kernel_rfl) ⟨⟨rfl, trivial⟩, trivial⟩ (by kernel_rfl) rfl rfl rfl ?_
     refine zag ({ s := x12 :: x10 :: x9 :: x8 :: x7 :: x6 :: x4 :: x3 :: x2 :: x5 :: x11 :: x0 :: bS, m := m6a :: m4a :: m3a :: m5a :: m11a :: bM, k := 9, f := f6a :: f6b :: f4a :: f4b :: f2a :: f0a :: bF }) [13] rfl (by kernel_rfl) (by kernel_rfl) ⟨⟨rfl, trivial⟩, trivial⟩ ⟨?_, trivial⟩
     refine cstY rfl rfl rfl ?_
     let m13a : Nat × LB := (6, .cells 41 (Ti.cells.map SA.v))
     let x14 : Nat × SV := (15, .one (.v (.bool true)))
     refine zae 14 x14.2 _ (by kernel_rfl) ⟨⟨rfl, trivial⟩, trivial⟩ (by kernel_rfl) rfl rfl rfl ?_
     refine zau _ rfl (by kernel_rfl) ⟨⟨rfl, trivial⟩, trivial⟩ ?_
     exact ⟨((A1, c1), (Tp, Tq), Ti), ⟨hp, hq, hi⟩, (zab [(0, .blk 0), (1, .blk 1), (2, .blk 2), (3, .blk 3), (4, .blk 4), (5, .blk 5), (6, .blk 6)] rfl rfl rfl rfl (leB rfl) ⟨⟨_, rfl, rfl⟩, ⟨_, rfl, rfl⟩, ⟨_, rfl, rfl⟩, ⟨_, rfl, rfl⟩, ⟨_, rfl, rfl⟩, ⟨_, rfl, rfl⟩, ⟨_, rfl, rfl⟩, ⟨_, rfl, rfl⟩, ⟨_, rfl, rfl⟩, ⟨_, rfl, rfl⟩, ⟨_, rfl, rfl⟩, ⟨_, rfl, rfl⟩, ⟨_, rfl, rfl⟩, trivial⟩ ⟨⟨_, rfl, rfl⟩, ⟨_, rfl, rfl⟩, ⟨_, rfl, rfl⟩, ⟨_, rfl, rfl⟩, ⟨_, rfl, rfl⟩, ⟨_, rfl, rfl⟩, ⟨_, rfl, rfl⟩, trivial⟩ ⟨⟨amG.up _, fun w h => h.2.2.2.2.2.2.1⟩, ⟨zax.up _ _ _, fun w h => h.1⟩, trivial⟩)⟩
  ·skip
   refine cstY rfl rfl rfl ?_
   let x5 : Nat × SV := (62, .one (.sl 6 0 2 2))
   let m5a : Nat × LB := (6, .cells 9 [.v (.string sP), .v (.string sQ)])
   refine zag ({ s := x5 :: bS, m := m5a :: bM, k := 7, f := bF }) [0, 11] rfl (by kernel_rfl) (by kernel_rfl) ⟨⟨rfl, rfl⟩, trivial⟩ ⟨?_, ?_, trivial⟩
   ·skip
    refine cstY rfl rfl rfl ?_
    refine zaa [] (zb2 0) rfl trivial rfl rfl (fun _ _ => trivial) (fun _ _ => ⟨rfl, rfl⟩) (fun _ _ => ?_)
    let x0 : Nat × SV := (57, ttA (vN 0))
    let f0a : World -> Prop := fun _ => True
    refine zag ({ s := x0 :: x5 :: bS, m := m5a :: bM, k := 7, f := f0a :: bF }) [2, 11] rfl (by kernel_rfl) (by kernel_rfl) ⟨⟨rfl, rfl⟩, trivial⟩ ⟨?_, ?_, trivial⟩
    ·skip
     refine cstY rfl rfl rfl ?_
     refine zaa [] (zb2 0) rfl trivial rfl rfl (fun _ _ => trivial) (fun _ _ => ⟨rfl, rfl⟩) (fun _ _ => ?_)
     let x2 : Nat × SV := (59, ttA (vN 0))
     let f2a : World -> Prop := fun _ => True
     refine zag ({ s := x2 :: x0 :: x5 :: bS, m := m5a :: bM, k := 7, f := f2a :: f0a :: bF }) [3, 11] rfl (by kernel_rfl) (by kernel_rfl) ⟨⟨rfl, rfl⟩, trivial⟩ ⟨?_, ?_, trivial⟩
     ·skip
      refine cstY rfl rfl rfl ?_
      let x3 : Nat × SV := (60, .one (.sl 7 0 2 2))
      let m3a : Nat × LB := (7, .cells 41 (((cN sA).cells ++ (vN 0).cells).map SA.v))
      refine zag ({ s := x3 :: x2 :: x0 :: x5 :: bS, m := m3a :: m5a :: bM, k := 8, f := f2a :: f0a :: bF }) [4, 11] rfl (by kernel_rfl) (by kernel_rfl) ⟨⟨rfl, trivial⟩, trivial⟩ ⟨?_, ?_, trivial⟩
      ·skip
       refine cstY rfl rfl rfl ?_
       refine zad 7 (vs := (cN sA).cells ++ (vN 0).cells) rfl rfl (fun g => ?_)
       refine zaa [] (za1 (some ⟨g, 0, none⟩)) rfl trivial rfl rfl (fun w h => ⟨zbn h.1 (cNa w) (vN0 w), vN0 w⟩) (fun x _ => ?_) (fun x hx => ?_)
       ·obtain ⟨xvk, xvn, xvs, xvla, xvlc, xvls, xvaa, xvac, xvus⟩ := x
        exact ⟨rfl, rfl⟩
       have hf : x.tm = tO := hx
       obtain ⟨xfk, xfn, xfs, xfla, xflc, xfls, xfaa, xfac, xfus⟩ := x
       let Tf : TT := (TT.mk xfk xfn xfs xfla xflc xfls xfaa xfac xfus)
       let x4 : Nat × SV := (61, ttA Tf)
       let m4a : Nat × LB := (7, .dead)
       let f4a : World -> Prop := fun w => TTIn w Tf
       let f4b : World -> Prop := fun w => SlAt w (some ⟨g, 0, none⟩) ((cN sA).cells ++ (vN 0).cells)
       refine zag ({ s := x4 :: x3 :: x2 :: x0 :: x5 :: bS, m := m4a :: m3a :: m5a :: bM, k := 8, f := f4a :: f4b :: f2a :: f0a :: bF }) [6, 11] rfl (by kernel_rfl) (by kernel_rfl) ⟨⟨rfl, trivial⟩, trivial⟩ ⟨?_, ?_, trivial⟩
       ·skip
        refine cstY rfl rfl rfl ?_
        refine zad 6 (vs := [.string sP, .string sQ]) rfl rfl (fun g2 => ?_)
        refine zaa [] (za2 Tf hf (some ⟨g2, 0, none⟩)) rfl trivial rfl rfl (fun w h => ⟨⟨h.2.2.2.2.2.1.1, ⟨h.1, fun h => (by cases h), Nat.le_refl _, by decide⟩⟩, h.2.1⟩) (fun q _ => ?_) (fun q hq => ?_)
        ·obtain ⟨⟨A1, c1⟩, dn, xvk, xvn, xvs, xvla, xvlc, xvls, xvaa, xvac, xvus⟩ := q
         exact ⟨rfl, rfl⟩
        obtain ⟨⟨A1, c1⟩, dn, xik, xin, xis, xila, xilc, xils, xiaa, xiac, xius⟩ := q
        obtain ⟨hq1, hi⟩ := hq
        have hi : (TT.mk xik xin xis xila xilc xils xiaa xiac xius).tm = cT sQ := hi
        obtain ⟨u0, u1, hdn, hp, hq⟩ := zbi dn hq1
        have hdn : dn = [(sP, u0), (sQ, u1)] := hdn
        subst hdn
        obtain ⟨xpk, xpn, xps, xpla, xplc, xpls, xpaa, xpac, xpus⟩ := u0
        obtain ⟨xqk, xqn, xqs, xqla, xqlc, xqls, xqaa, xqac, xqus⟩ := u1
        let Tp : TT := (TT.mk xpk xpn xps xpla xplc xpls xpaa xpac xpus)
        let Tq : TT := (TT.mk xqk xqn xqs xqla xqlc xqls xqaa xqac xqus)
        let Ti : TT := (TT.mk xik xin xis xila xilc xils xiaa xiac xius)
        let x6 : Nat × SV := (63, .tup [.one (.v (.slice A1 2 c1)), .agg (Ti.cells.map SA.v), .one (.v (.bool true))])
        let m6a : Nat × LB := (6, .dead)
        let f6a : World -> Prop := zax A1 [(sP, Tp), (sQ, Tq)] Ti
        let f6b : World -> Prop := fun w => SlAt w (some ⟨g2, 0, none⟩) [.string sP, .string sQ]
        let x7 : Nat × SV := (56, .tup [.one (.v (.slice A1 2 c1)), .agg (Ti.cells.map SA.v), .one (.v (.bool true))])
        refine zae 7 x7.2 _ (by kernel_rfl) ⟨⟨rfl, trivial⟩, trivial⟩ (by kernel_rfl) rfl rfl rfl ?_
        let x8 : Nat × SV := (64, .one (.v (.slice A1 2 c1)))
        refine zae 8 x8.2 _ (by kernel_rfl) ⟨⟨rfl, trivial⟩, trivial⟩ (by kernel_rfl) rfl rfl rfl ?_
        let x9 : Nat × SV := (65, .agg (Ti.cells.map SA.v))
        refine zae 9 x9.2 _ (by kernel_rfl) ⟨⟨rfl, trivial⟩, trivial⟩ (by kernel_rfl) rfl rfl rfl ?_
        let x10 : Nat × SV := (66, .one (.v (.bool true)))
        refine zae 10 x10.2 _ (by kernel_rfl) ⟨⟨rfl, trivial⟩, trivial⟩ (by kernel_rfl) rfl rfl rfl ?_
        refine zag ({ s := x10 :: x9 :: x8 :: x7 :: x6 :: x4 :: x3 :: x2 :: x0 :: x5 :: bS, m := m6a :: m4a :: m3a :: m5a :: bM, k := 8, f := f6a :: f6b :: f4a :: f4b :: f2a :: f0a :: bF }) [11] rfl (by kernel_rfl) (by kernel_rfl) ⟨⟨rfl, trivial⟩, trivial⟩ ⟨?_, trivial⟩
        refine cstY rfl rfl rfl ?_
        let x11 : Nat × SV := (14, .one (.p 8 0))
        let m11a : Nat × LB := (8, .cells 41 zan)
        let x12 : Nat × SV := (13, .one (.v (.slice A1 2 c1)))
        refine zae 12 x12.2 _ (by kernel_rfl) ⟨⟨rfl, trivial⟩, trivial⟩ (by kernel_rfl) rfl rfl rfl ?_
        refine zag ({ s := x12 :: x11 :: x10 :: x9 :: x8 :: x7 :: x6 :: x4 :: x3 :: x2 :: x0 :: x5 :: bS, m := m11a :: m6a :: m4a :: m3a :: m5a :: bM, k := 9, f := f6a :: f6b :: f4a :: f4b :: f2a :: f0a :: bF }) [13] rfl (by kernel_rfl) (by kernel_rfl) ⟨⟨rfl, trivial⟩, trivial⟩ ⟨?_, trivial⟩
        refine cstY rfl rfl rfl ?_
        let m13a : Nat × LB := (8, .cells 41 (Ti.cells.map SA.v))
        let x14 : Nat × SV := (15, .one (.v (.bool true)))
        refine zae 14 x14.2 _ (by kernel_rfl) ⟨⟨rfl, trivial⟩, trivial⟩ (by kernel_rfl) rfl rfl rfl ?_
        refine zau _ rfl (by kernel_rfl) ⟨⟨rfl, trivial⟩, trivial⟩ ?_
        exact ⟨((A1, c1), (Tp, Tq), Ti), ⟨hp, hq, hi⟩, (zab [(0, .blk 0), (1, .blk 1), (2, .blk 2), (3, .blk 3), (4, .blk 4), (5, .blk 5), (6, .blk 8)] rfl rfl rfl rfl (leB rfl) ⟨⟨_, rfl, rfl⟩, ⟨_, rfl, rfl⟩, ⟨_, rfl, rfl⟩, ⟨_, rfl, rfl⟩, ⟨_, rfl, rfl⟩, ⟨_, rfl, rfl⟩, ⟨_, rfl, rfl⟩, ⟨_, rfl, rfl⟩, ⟨_, rfl, rfl⟩, ⟨_, rfl, rfl⟩, ⟨_, rfl, rfl⟩, ⟨_, rfl, rfl⟩, ⟨_, rfl, rfl⟩, trivial⟩ ⟨⟨_, rfl, rfl⟩, ⟨_, rfl, rfl⟩, ⟨_, rfl, rfl⟩, ⟨_, rfl, rfl⟩, ⟨_, rfl, rfl⟩, ⟨_, rfl, rfl⟩, ⟨_, rfl, rfl⟩, trivial⟩ ⟨⟨amG.up _, fun w h => h.2.2.2.2.2.2.1⟩, ⟨zax.up _ _ _, fun w h => h.1⟩, trivial⟩)⟩
       ·skip
        refine cstY rfl rfl rfl ?_
        let x11 : Nat × SV := (14, .one (.p 8 0))
        let m11a : Nat × LB := (8, .cells 41 zan)
        refine zag ({ s := x11 :: x4 :: x3 :: x2 :: x0 :: x5 :: bS, m := m11a :: m4a :: m3a :: m5a :: bM, k := 9, f := f4a :: f4b :: f2a :: f0a :: bF }) [6] rfl (by kernel_rfl) (by kernel_rfl) ⟨⟨rfl, trivial⟩, trivial⟩ ⟨?_, trivial⟩
        refine cstY rfl rfl rfl ?_
        refine zad 6 (vs := [.string sP, .string sQ]) rfl rfl (fun g2 => ?_)
        refine zaa [] (za2 Tf hf (some ⟨g2, 0, none⟩)) rfl trivial rfl rfl (fun w h => ⟨⟨h.2.2.2.2.2.1.1, ⟨h.1, fun h => (by cases h), Nat.le_refl _, by decide⟩⟩, h.2.1⟩) (fun q _ => ?_) (fun q hq => ?_)
        ·obtain ⟨⟨A1, c1⟩, dn, xvk, xvn, xvs, xvla, xvlc, xvls, xvaa, xvac, xvus⟩ := q
         exact ⟨rfl, rfl⟩
        obtain ⟨⟨A1, c1⟩, dn, xik, xin, xis, xila, xilc, xils, xiaa, xiac, xius⟩ := q
        obtain ⟨hq1, hi⟩ := hq
        have hi : (TT.mk xik xin xis xila xilc xils xiaa xiac xius).tm = cT sQ := hi
        obtain ⟨u0, u1, hdn, hp, hq⟩ := zbi dn hq1
        have hdn : dn = [(sP, u0), (sQ, u1)] := hdn
        subst hdn
        obtain ⟨xpk, xpn, xps, xpla, xplc, xpls, xpaa, xpac, xpus⟩ := u0
        obtain ⟨xqk, xqn, xqs, xqla, xqlc, xqls, xqaa, xqac, xqus⟩ := u1
        let Tp : TT := (TT.mk xpk xpn xps xpla xplc xpls xpaa xpac xpus)
        let Tq : TT := (TT.mk xqk xqn xqs xqla xqlc xqls xqaa xqac xqus)
        let Ti : TT := (TT.mk xik xin xis xila xilc xils xiaa xiac xius)
        let x6 : Nat × SV := (63, .tup [.one (.v (.slice A1 2 c1)), .agg (Ti.cells.map SA.v), .one (.v (.bool true))])
        let m6a : Nat × LB := (6, .dead)
        let f6a : World -> Prop := zax A1 [(sP, Tp), (sQ, Tq)] Ti
        let f6b : World -> Prop := fun w => SlAt w (some ⟨g2, 0, none⟩) [.string sP, .string sQ]
        let x7 : Nat × SV := (56, .tup [.one (.v (.slice A1 2 c1)), .agg (Ti.cells.map SA.v), .one (.v (.bool true))])
        refine zae 7 x7.2 _ (by kernel_rfl) ⟨⟨rfl, trivial⟩, trivial⟩ (by kernel_rfl) rfl rfl rfl ?_
        let x8 : Nat × SV := (64, .one (.v (.slice A1 2 c1)))
        refine zae 8 x8.2 _ (by kernel_rfl) ⟨⟨rfl, trivial⟩, trivial⟩ (by kernel_rfl) rfl rfl rfl ?_
        let x9 : Nat × SV := (65, .agg (Ti.cells.map SA.v))
        refine zae 9 x9.2 _ (by kernel_rfl) ⟨⟨rfl, trivial⟩, trivial⟩ (by kernel_rfl) rfl rfl rfl ?_
        let x10 : Nat × SV := (66, .one (.v (.bool true)))
        refine zae 10 x10.2 _ (by kernel_rfl) ⟨⟨rfl, trivial⟩, trivial⟩ (by kernel_rfl) rfl rfl rfl ?_
        let x12 : Nat × SV := (13, .one (.v (.slice A1 2 c1)))
        refine zae 12 x12.2 _ (by kernel_rfl) ⟨⟨rfl, trivial⟩, trivial⟩ (by kernel_rfl) rfl rfl rfl ?_
        refine zag ({ s := x12 :: x10 :: x9 :: x8 :: x7 :: x6 :: x11 :: x4 :: x3 :: x2 :: x0 :: x5 :: bS, m := m6a :: m11a :: m4a :: m3a :: m5a :: bM, k := 9, f := f6a :: f6b :: f4a :: f4b :: f2a :: f0a :: bF }) [13] rfl (by kernel_rfl) (by kernel_rfl) ⟨⟨rfl, trivial⟩, trivial⟩ ⟨?_, trivial⟩
        refine cstY rfl rfl rfl ?_
        let m13a : Nat × LB := (8, .cells 41 (Ti.cells.map SA.v))
        let x14 : Nat × SV := (15, .one (.v (.bool true)))
        refine zae 14 x14.2 _ (by kernel_rfl) ⟨⟨rfl, trivial⟩, trivial⟩ (by kernel_rfl) rfl rfl rfl ?_
        refine zau _ rfl (by kernel_rfl) ⟨⟨rfl, trivial⟩, trivial⟩ ?_
        exact ⟨((A1, c1), (Tp, Tq), Ti), ⟨hp, hq, hi⟩, (zab [(0, .blk 0), (1, .blk 1), (2, .blk 2), (3, .blk 3), (4, .blk 4), (5, .blk 5), (6, .blk 8)] rfl rfl rfl rfl (leB rfl) ⟨⟨_, rfl, rfl⟩, ⟨_, rfl, rfl⟩, ⟨_, rfl, rfl⟩, ⟨_, rfl, rfl⟩, ⟨_, rfl, rfl⟩, ⟨_, rfl, rfl⟩, ⟨_, rfl, rfl⟩, ⟨_, rfl, rfl⟩, ⟨_, rfl, rfl⟩, ⟨_, rfl, rfl⟩, ⟨_, rfl, rfl⟩, ⟨_, rfl, rfl⟩, ⟨_, rfl, rfl⟩, trivial⟩ ⟨⟨_, rfl, rfl⟩, ⟨_, rfl, rfl⟩, ⟨_, rfl, rfl⟩, ⟨_, rfl, rfl⟩, ⟨_, rfl, rfl⟩, ⟨_, rfl, rfl⟩, ⟨_, rfl, rfl⟩, trivial⟩ ⟨⟨amG.up _, fun w h => h.2.2.2.2.2.2.1⟩, ⟨zax.up _ _ _, fun w h => h.1⟩, trivial⟩)⟩
      ·skip
       refine cstY rfl rfl rfl ?_
       let x11 : Nat × SV := (14, .one (.p 8 0))
       let m11a : Nat × LB := (8, .cells 41 zan)
       refine zag ({ s := x11 :: x3 :: x2 :: x0 :: x5 :: bS, m := m11a :: m3a :: m5a :: bM, k := 9, f := f2a :: f0a :: bF }) [4] rfl (by kernel_rfl) (by kernel_rfl) ⟨⟨rfl, trivial⟩, trivial⟩ ⟨?_, trivial⟩
       refine cstY rfl rfl rfl ?_
       refine zad 7 (vs := (cN sA).cells ++ (vN 0).cells) rfl rfl (fun g => ?_)
       refine zaa [] (za1 (some ⟨g, 0, none⟩)) rfl trivial rfl rfl (fun w h => ⟨zbn h.1 (cNa w) (vN0 w), vN0 w⟩) (fun x _ => ?_) (fun x hx => ?_)
       ·obtain ⟨xvk, xvn, xvs, xvla, xvlc, xvls, xvaa, xvac, xvus⟩ := x
        exact ⟨rfl, rfl⟩
       have hf : x.tm = tO := hx
       obtain ⟨xfk, xfn, xfs, xfla, xflc, xfls, xfaa, xfac, xfus⟩ := x
       let Tf : TT := (TT.mk xfk xfn xfs xfla xflc xfls xfaa xfac xfus)
       let x4 : Nat × SV := (61, ttA Tf)
       let m4a : Nat × LB := (7, .dead)
       let f4a : World -> Prop := fun w => TTIn w Tf
       let f4b : World -> Prop := fun w => SlAt w (some ⟨g, 0, none⟩) ((cN sA).cells ++ (vN 0).cells)
       refine zag ({ s := x4 :: x11 :: x3 :: x2 :: x0 :: x5 :: bS, m := m4a :: m11a :: m3a :: m5a :: bM, k := 9, f := f4a :: f4b :: f2a :: f0a :: bF }) [6] rfl (by kernel_rfl) (by kernel_rfl) ⟨⟨rfl, trivial⟩, trivial⟩ ⟨?_, trivial⟩
       refine cstY rfl rfl rfl ?_
       refine zad 6 (vs := [.string sP, .string sQ]) rfl rfl (fun g2 => ?_)
       refine zaa [] (za2 Tf hf (some ⟨g2, 0, none⟩)) rfl trivial rfl rfl (fun w h => ⟨⟨h.2.2.2.2.2.1.1, ⟨h.1, fun h => (by cases h), Nat.le_refl _, by decide⟩⟩, h.2.1⟩) (fun q _ => ?_) (fun q hq => ?_)
       ·obtain ⟨⟨A1, c1⟩, dn, xvk, xvn, xvs, xvla, xvlc, xvls, xvaa, xvac, xvus⟩ := q
        exact ⟨rfl, rfl⟩
       obtain ⟨⟨A1, c1⟩, dn, xik, xin, xis, xila, xilc, xils, xiaa, xiac, xius⟩ := q
       obtain ⟨hq1, hi⟩ := hq
       have hi : (TT.mk xik xin xis xila xilc xils xiaa xiac xius).tm = cT sQ := hi
       obtain ⟨u0, u1, hdn, hp, hq⟩ := zbi dn hq1
       have hdn : dn = [(sP, u0), (sQ, u1)] := hdn
       subst hdn
       obtain ⟨xpk, xpn, xps, xpla, xplc, xpls, xpaa, xpac, xpus⟩ := u0
       obtain ⟨xqk, xqn, xqs, xqla, xqlc, xqls, xqaa, xqac, xqus⟩ := u1
       let Tp : TT := (TT.mk xpk xpn xps xpla xplc xpls xpaa xpac xpus)
       let Tq : TT := (TT.mk xqk xqn xqs xqla xqlc xqls xqaa xqac xqus)
       let Ti : TT := (TT.mk xik xin xis xila xilc xils xiaa xiac xius)
       let x6 : Nat × SV := (63, .tup [.one (.v (.slice A1 2 c1)), .agg (Ti.cells.map SA.v), .one (.v (.bool true))])
       let m6a : Nat × LB := (6, .dead)
       let f6a : World -> Prop := zax A1 [(sP, Tp), (sQ, Tq)] Ti
       let f6b : World -> Prop := fun w => SlAt w (some ⟨g2, 0, none⟩) [.string sP, .string sQ]
       let x7 : Nat × SV := (56, .tup [.one (.v (.slice A1 2 c1)), .agg (Ti.cells.map SA.v), .one (.v (.bool true))])
       refine zae 7 x7.2 _ (by kernel_rfl) ⟨⟨rfl, trivial⟩, trivial⟩ (by kernel_rfl) rfl rfl rfl ?_
       let x8 : Nat × SV := (64, .one (.v (.slice A1 2 c1)))
       refine zae 8 x8.2 _ (by kernel_rfl) ⟨⟨rfl, trivial⟩, trivial⟩ (by kernel_rfl) rfl rfl rfl ?_
       let x9 : Nat × SV := (65, .agg (Ti.cells.map SA.v))
       refine zae 9 x9.2 _ (by kernel_rfl) ⟨⟨rfl, trivial⟩, trivial⟩ (by kernel_rfl) rfl rfl rfl ?_
       let x10 : Nat × SV := (66, .one (.v (.bool true)))
       refine zae 10 x10.2 _ (by kernel_rfl) ⟨⟨rfl, trivial⟩, trivial⟩ (by kernel_rfl) rfl rfl rfl ?_
       let x12 : Nat × SV := (13, .one (.v (.slice A1 2 c1)))
       refine zae 12 x12.2 _ (by kernel_rfl) ⟨⟨rfl, trivial⟩, trivial⟩ (by kernel_rfl) rfl rfl rfl ?_
       refine zag ({ s := x12 :: x10 :: x9 :: x8 :: x7 :: x6 :: x4 :: x11 :: x3 :: x2 :: x0 :: x5 :: bS, m := m6a :: m4a :: m11a :: m3a :: m5a :: bM, k := 9, f := f6a :: f6b :: f4a :: f4b :: f2a :: f0a :: bF }) [13] rfl (by kernel_rfl) (by kernel_rfl) ⟨⟨rfl, trivial⟩, trivial⟩ ⟨?_, trivial⟩
       refine cstY rfl rfl rfl ?_
       let m13a : Nat × LB := (8, .cells 41 (Ti.cells.map SA.v))
       let x14 : Nat × SV := (15, .one (.v (.bool true)))
       refine zae 14 x14.2 _ (by kernel_rfl) ⟨⟨rfl, trivial⟩, trivial⟩ (by kernel_rfl) rfl rfl rfl ?_
       refine zau _ rfl (by kernel_rfl) ⟨⟨rfl, trivial⟩, trivial⟩ ?_
       exact ⟨((A1, c1), (Tp, Tq), Ti), ⟨hp, hq, hi⟩, (zab [(0, .blk 0), (1, .blk 1), (2, .blk 2), (3, .blk 3), (4, .blk 4), (5, .blk 5), (6, .blk 8)] rfl rfl rfl rfl (leB rfl) ⟨⟨_, rfl, rfl⟩, ⟨_, rfl, rfl⟩, ⟨_, rfl, rfl⟩, ⟨_, rfl, rfl⟩, ⟨_, rfl, rfl⟩, ⟨_, rfl, rfl⟩, ⟨_, rfl, rfl⟩, ⟨_, rfl, rfl⟩, ⟨_, rfl, rfl⟩, ⟨_, rfl, rfl⟩, ⟨_, rfl, rfl⟩, ⟨_, rfl, rfl⟩, ⟨_, rfl, rfl⟩, trivial⟩ ⟨⟨_, rfl, rfl⟩, ⟨_, rfl, rfl⟩, ⟨_, rfl, rfl⟩, ⟨_, rfl, rfl⟩, ⟨_, rfl, rfl⟩, ⟨_, rfl, rfl⟩, ⟨_, rfl, rfl⟩, trivial⟩ ⟨⟨amG.up _, fun w h => h.2.2.2.2.2.2.1⟩, ⟨zax.up _ _ _, fun w h => h.1⟩, trivial⟩)⟩
     ·skip
      refine cstY rfl rfl rfl ?_
      let x11 : Nat × SV := (14, .one (.p 7 0))
      let m11a : Nat × LB := (7, .cells 41 zan)
      refine zag ({ s := x11 :: x2 :: x0 :: x5 :: bS, m := m11a :: m5a :: bM, k := 8, f := f2a :: f0a :: bF }) [3] rfl (by kernel_rfl) (by kernel_rfl) ⟨⟨rfl, rfl⟩, trivial⟩ ⟨?_, trivial⟩
      refine cstY rfl rfl rfl ?_
      let x3 : Nat × SV := (60, .one (.sl 8 0 2 2))
      let m3a : Nat × LB := (8, .cells 41 (((cN sA).cells ++ (vN 0).cells).map SA.v))
      refine zag ({ s := x3 :: x11 :: x2 :: x0 :: x5 :: bS, m := m3a :: m11a :: m5a :: bM, k := 9, f := f2a :: f0a :: bF }) [4] rfl (by kernel_rfl) (by kernel_rfl) ⟨⟨rfl, trivial⟩, trivial⟩ ⟨?_, trivial⟩
      refine cstY rfl rfl rfl ?_
      refine zad 8 (vs := (cN sA).cells ++ (vN 0).cells) rfl rfl (fun g => ?_)
      refine zaa [] (za1 (some ⟨g, 0, none⟩)) rfl trivial rfl rfl (fun w h => ⟨zbn h.1 (cNa w) (vN0 w), vN0 w⟩) (fun x _ => ?_) (fun x hx => ?_)
      ·obtain ⟨xvk, xvn, xvs, xvla, xvlc, xvls, xvaa, xvac, xvus⟩ := x
       exact ⟨rfl, rfl⟩
      have hf : x.tm = tO := hx
      obtain ⟨xfk, xfn, xfs, xfla, xflc, xfls, xfaa, xfac, xfus⟩ := x
      let Tf : TT := (TT.mk xfk xfn xfs xfla xflc xfls xfaa xfac xfus)
      let x4 : Nat × SV := (61, ttA Tf)
      let m4a : Nat × LB := (8, .dead)
      let f4a : World -> Prop := fun w => TTIn w Tf
      let f4b : World -> Prop := fun w => SlAt w (some ⟨g, 0, none⟩) ((cN sA).cells ++ (vN 0).cells)
      refine zag ({ s := x4 :: x3 :: x11 :: x2 :: x0 :: x5 :: bS, m := m4a :: m3a :: m11a :: m5a :: bM, k := 9, f := f4a :: f4b :: f2a :: f0a :: bF }) [6] rfl (by kernel_rfl) (by kernel_rfl) ⟨⟨rfl, trivial⟩, trivial⟩ ⟨?_, trivial⟩
      refine cstY rfl rfl rfl ?_
      refine zad 6 (vs := [.string sP, .string sQ]) rfl rfl (fun g2 => ?_)
      refine zaa [] (za2 Tf hf (some ⟨g2, 0, none⟩)) rfl trivial rfl rfl (fun w h => ⟨⟨h.2.2.2.2.2.1.1, ⟨h.1, fun h => (by cases h), Nat.le_refl _, by decide⟩⟩, h.2.1⟩) (fun q _ => ?_) (fun q hq => ?_)
      ·obtain ⟨⟨A1, c1⟩, dn, xvk, xvn, xvs, xvla, xvlc, xvls, xvaa, xvac, xvus⟩ := q
       exact ⟨rfl, rfl⟩
      obtain ⟨⟨A1, c1⟩, dn, xik, xin, xis, xila, xilc, xils, xiaa, xiac, xius⟩ := q
      obtain ⟨hq1, hi⟩ := hq
      have hi : (TT.mk xik xin xis xila xilc xils xiaa xiac xius).tm = cT sQ := hi
      obtain ⟨u0, u1, hdn, hp, hq⟩ := zbi dn hq1
      have hdn : dn = [(sP, u0), (sQ, u1)] := hdn
      subst hdn
      obtain ⟨xpk, xpn, xps, xpla, xplc, xpls, xpaa, xpac, xpus⟩ := u0
      obtain ⟨xqk, xqn, xqs, xqla, xqlc, xqls, xqaa, xqac, xqus⟩ := u1
      let Tp : TT := (TT.mk xpk xpn xps xpla xplc xpls xpaa xpac xpus)
      let Tq : TT := (TT.mk xqk xqn xqs xqla xqlc xqls xqaa xqac xqus)
      let Ti : TT := (TT.mk xik xin xis xila xilc xils xiaa xiac xius)
      let x6 : Nat × SV := (63, .tup [.one (.v (.slice A1 2 c1)), .agg (Ti.cells.map SA.v), .one (.v (.bool true))])
      let m6a : Nat × LB := (6, .dead)
      let f6a : World -> Prop := zax A1 [(sP, Tp), (sQ, Tq)] Ti
      let f6b : World -> Prop := fun w => SlAt w (some ⟨g2, 0, none⟩) [.string sP, .string sQ]
      let x7 : Nat × SV := (56, .tup [.one (.v (.slice A1 2 c1)), .agg (Ti.cells.map SA.v), .one (.v (.bool true))])
      refine zae 7 x7.2 _ (by kernel_rfl) ⟨⟨rfl, trivial⟩, trivial⟩ (by kernel_rfl) rfl rfl rfl ?_
      let x8 : Nat × SV := (64, .one (.v (.slice A1 2 c1)))
      refine zae 8 x8.2 _ (by kernel_rfl) ⟨⟨rfl, trivial⟩, trivial⟩ (by kernel_rfl) rfl rfl rfl ?_
      let x9 : Nat × SV := (65, .agg (Ti.cells.map SA.v))
      refine zae 9 x9.2 _ (by kernel_rfl) ⟨⟨rfl, trivial⟩, trivial⟩ (by kernel_rfl) rfl rfl rfl ?_
      let x10 : Nat × SV := (66, .one (.v (.bool true)))
      refine zae 10 x10.2 _ (by kernel_rfl) ⟨⟨rfl, trivial⟩, trivial⟩ (by kernel_rfl) rfl rfl rfl ?_
      let x12 : Nat × SV := (13, .one (.v (.slice A1 2 c1)))
      refine zae 12 x12.2 _ (by kernel_rfl) ⟨⟨rfl, trivial⟩, trivial⟩ (by kernel_rfl) rfl rfl rfl ?_
      refine zag ({ s := x12 :: x10 :: x9 :: x8 :: x7 :: x6 :: x4 :: x3 :: x11 :: x2 :: x0 :: x5 :: bS, m := m6a :: m4a :: m3a :: m11a :: m5a :: bM, k := 9, f := f6a :: f6b :: f4a :: f4b :: f2a :: f0a :: bF }) [13] rfl (by kernel_rfl) (by kernel_rfl) ⟨⟨rfl, trivial⟩, trivial⟩ ⟨?_, trivial⟩
      refine cstY rfl rfl rfl ?_
      let m13a : Nat × LB := (7, .cells 41 (Ti.cells.map SA.v))
      let x14 : Nat × SV := (15, .one (.v (.bool true)))
      refine zae 14 x14.2 _ (by kernel_rfl) ⟨⟨rfl, trivial⟩, trivial⟩ (by kernel_rfl) rfl rfl rfl ?_
      refine zau _ rfl (by kernel_rfl) ⟨⟨rfl, trivial⟩, trivial⟩ ?_
      exact ⟨((A1, c1), (Tp, Tq), Ti), ⟨hp, hq, hi⟩, (zab [(0, .blk 0), (1, .blk 1), (2, .blk 2), (3, .blk 3), (4, .blk 4), (5, .blk 5), (6, .blk 7)] rfl rfl rfl rfl (leB rfl) ⟨⟨_, rfl, rfl⟩, ⟨_, rfl, rfl⟩, ⟨_, rfl, rfl⟩, ⟨_, rfl, rfl⟩, ⟨_, rfl, rfl⟩, ⟨_, rfl, rfl⟩, ⟨_, rfl, rfl⟩, ⟨_, rfl, rfl⟩, ⟨_, rfl, rfl⟩, ⟨_, rfl, rfl⟩, ⟨_, rfl, rfl⟩, ⟨_, rfl, rfl⟩, ⟨_, rfl, rfl⟩, trivial⟩ ⟨⟨_, rfl, rfl⟩, ⟨_, rfl, rfl⟩, ⟨_, rfl, rfl⟩, ⟨_, rfl, rfl⟩, ⟨_, rfl, rfl⟩, ⟨_, rfl, rfl⟩, ⟨_, rfl, rfl⟩, trivial⟩ ⟨⟨amG.up _, fun w h => h.2.2.2.2.2.2.1⟩, ⟨zax.up _ _ _, fun w h => h.1⟩, trivial⟩)⟩
    ·skip
     refine cstY rfl rfl rfl ?_
     let x11 : Nat × SV := (14, .one (.p 7 0))
     let m11a : Nat × LB := (7, .cells 41 zan)
     refine zag ({ s := x11 :: x0 :: x5 :: bS, m := m11a :: m5a :: bM, k := 8, f := f0a :: bF }) [2] rfl (by kernel_rfl) (by kernel_rfl) ⟨⟨rfl, rfl⟩, trivial⟩ ⟨?_, trivial⟩
     refine cstY rfl rfl rfl ?_
     refine zaa [] (zb2 0) rfl trivial rfl rfl (fun _ _ => trivial) (fun _ _ => ⟨rfl, rfl⟩) (fun _ _ => ?_)
     let x2 : Nat × SV := (59, ttA (vN 0))
     let f2a : World -> Prop := fun _ => True
     refine zag ({ s := x2 :: x11 :: x0 :: x5 :: bS, m := m11a :: m5a :: bM, k := 8, f := f2a :: f0a :: bF }) [3] rfl (by kernel_rfl) (by kernel_rfl) ⟨⟨rfl, rfl⟩, trivial⟩ ⟨?_, trivial⟩
     refine cstY rfl rfl rfl ?_
     let x3 : Nat × SV := (60, .one (.sl 8 0 2 2))
     let m3a : Nat × LB := (8, .cells 41 (((cN sA).cells ++ (vN 0).cells).map SA.v))
     refine zag ({ s := x3 :: x2 :: x11 :: x0 :: x5 :: bS, m := m3a :: m11a :: m5a :: bM, k := 9, f := f2a :: f0a :: bF }) [4] rfl (by kernel_rfl) (by kernel_rfl) ⟨⟨rfl, trivial⟩, trivial⟩ ⟨?_, trivial⟩
     refine cstY rfl rfl rfl ?_
     refine zad 8 (vs := (cN sA).cells ++ (vN 0).cells) rfl rfl (fun g => ?_)
     refine zaa [] (za1 (some ⟨g, 0, none⟩)) rfl trivial rfl rfl (fun w h => ⟨zbn h.1 (cNa w) (vN0 w), vN0 w⟩) (fun x _ => ?_) (fun x hx => ?_)
     ·obtain ⟨xvk, xvn, xvs, xvla, xvlc, xvls, xvaa, xvac, xvus⟩ := x
      exact ⟨rfl, rfl⟩
     have hf : x.tm = tO := hx
     obtain ⟨xfk, xfn, xfs, xfla, xflc, xfls, xfaa, xfac, xfus⟩ := x
     let Tf : TT := (TT.mk xfk xfn xfs xfla xflc xfls xfaa xfac xfus)
     let x4 : Nat × SV := (61, ttA Tf)
     let m4a : Nat × LB := (8, .dead)
     let f4a : World -> Prop := fun w => TTIn w Tf
     let f4b : World -> Prop := fun w => SlAt w (some ⟨g, 0, none⟩) ((cN sA).cells ++ (vN 0).cells)
     refine zag ({ s := x4 :: x3 :: x2 :: x11 :: x0 :: x5 :: bS, m := m4a :: m3a :: m11a :: m5a :: bM, k := 9, f := f4a :: f4b :: f2a :: f0a :: bF }) [6] rfl (by kernel_rfl) (by kernel_rfl) ⟨⟨rfl, trivial⟩, trivial⟩ ⟨?_, trivial⟩
     refine cstY rfl rfl rfl ?_
     refine zad 6 (vs := [.string sP, .string sQ]) rfl rfl (fun g2 => ?_)
     refine zaa [] (za2 Tf hf (some ⟨g2, 0, none⟩)) rfl trivial rfl rfl (fun w h => ⟨⟨h.2.2.2.2.2.1.1, ⟨h.1, fun h => (by cases h), Nat.le_refl _, by decide⟩⟩, h.2.1⟩) (fun q _ => ?_) (fun q hq => ?_)
     ·obtain ⟨⟨A1, c1⟩, dn, xvk, xvn, xvs, xvla, xvlc, xvls, xvaa, xvac, xvus⟩ := q
      exact ⟨rfl, rfl⟩
     obtain ⟨⟨A1, c1⟩, dn, xik, xin, xis, xila, xilc, xils, xiaa, xiac, xius⟩ := q
     obtain ⟨hq1, hi⟩ := hq
     have hi : (TT.mk xik xin xis xila xilc xils xiaa xiac xius).tm = cT sQ := hi
     obtain ⟨u0, u1, hdn, hp, hq⟩ := zbi dn hq1
     have hdn : dn = [(sP, u0), (sQ, u1)] := hdn
     subst hdn
     obtain ⟨xpk, xpn, xps, xpla, xplc, xpls, xpaa, xpac, xpus⟩ := u0
     obtain ⟨xqk, xqn, xqs, xqla, xqlc, xqls, xqaa, xqac, xqus⟩ := u1
     let Tp : TT := (TT.mk xpk xpn xps xpla xplc xpls xpaa xpac xpus)
     let Tq : TT := (TT.mk xqk xqn xqs xqla xqlc xqls xqaa xqac xqus)
     let Ti : TT := (TT.mk xik xin xis xila xilc xils xiaa xiac xius)
     let x6 : Nat × SV := (63, .tup [.one (.v (.slice A1 2 c1)), .agg (Ti.cells.map SA.v), .one (.v (.bool true))])
     let m6a : Nat × LB := (6, .dead)
     let f6a : World -> Prop := zax A1 [(sP, Tp), (sQ, Tq)] Ti
     let f6b : World -> Prop := fun w => SlAt w (some ⟨g2, 0, none⟩) [.string sP, .string sQ]
     let x7 : Nat × SV := (56, .tup [.one (.v (.slice A1 2 c1)), .agg (Ti.cells.map SA.v), .one (.v (.bool true))])
     refine zae 7 x7.2 _ (by kernel_rfl) ⟨⟨rfl, trivial⟩, trivial⟩ (by kernel_rfl) rfl rfl rfl ?_
     let x8 : Nat × SV := (64, .one (.v (.slice A1 2 c1)))
     refine zae 8 x8.2 _ (by kernel_rfl) ⟨⟨rfl, trivial⟩, trivial⟩ (by kernel_rfl) rfl rfl rfl ?_
     let x9 : Nat × SV := (65, .agg (Ti.cells.map SA.v))
     refine zae 9 x9.2 _ (by kernel_rfl) ⟨⟨rfl, trivial⟩, trivial⟩ (by kernel_rfl) rfl rfl rfl ?_
     let x10 : Nat × SV := (66, .one (.v (.bool true)))
     refine zae 10 x10.2 _ (by kernel_rfl) ⟨⟨rfl, trivial⟩, trivial⟩ (by kernel_rfl) rfl rfl rfl ?_
     let x12 : Nat × SV := (13, .one (.v (.slice A1 2 c1)))
     refine zae 12 x12.2 _ (by kernel_rfl) ⟨⟨rfl, trivial⟩, trivial⟩ (by kernel_rfl) rfl rfl rfl ?_
     refine zag ({ s := x12 :: x10 :: x9 :: x8 :: x7 :: x6 :: x4 :: x3 :: x2 :: x11 :: x0 :: x5 :: bS, m := m6a :: m4a :: m3a :: m11a :: m5a :: bM, k := 9, f := f6a :: f6b :: f4a :: f4b :: f2a :: f0a :: bF }) [13] rfl (by kernel_rfl) (by kernel_rfl) ⟨⟨rfl, trivial⟩, trivial⟩ ⟨?_, trivial⟩
     refine cstY rfl rfl rfl ?_
     let m13a : Nat × LB := (7, .cells 41 (Ti.cells.map SA.v))
     let x14 : Nat × SV := (15, .one (.v (.bool true)))
     refine zae 14 x14.2 _ (by kernel_rfl) ⟨⟨rfl, trivial⟩, trivial⟩ (by kernel_rfl) rfl rfl rfl ?_
     refine zau _ rfl (by kernel_rfl) ⟨⟨rfl, trivial⟩, trivial⟩ ?_
     exact ⟨((A1, c1), (Tp, Tq), Ti), ⟨hp, hq, hi⟩, (zab [(0, .blk 0), (1, .blk 1), (2, .blk 2), (3, .blk 3), (4, .blk 4), (5, .blk 5), (6, .blk 7)] rfl rfl rfl rfl (leB rfl) ⟨⟨_, rfl, rfl⟩, ⟨_, rfl, rfl⟩, ⟨_, rfl, rfl⟩, ⟨_, rfl, rfl⟩, ⟨_, rfl, rfl⟩, ⟨_, rfl, rfl⟩, ⟨_, rfl, rfl⟩, ⟨_, rfl, rfl⟩, ⟨_, rfl, rfl⟩, ⟨_, rfl, rfl⟩, ⟨_, rfl, rfl⟩, ⟨_, rfl, rfl⟩, ⟨_, rfl, rfl⟩, trivial⟩ ⟨⟨_, rfl, rfl⟩, ⟨_, rfl, rfl⟩, ⟨_, rfl, rfl⟩, ⟨_, rfl, rfl⟩, ⟨_, rfl, rfl⟩, ⟨_, rfl, rfl⟩, ⟨_, rfl, rfl⟩, trivial⟩ ⟨⟨amG.up _, fun w h => h.2.2.2.2.2.2.1⟩, ⟨zax.up _ _ _, fun w h => h.1⟩, trivial⟩)⟩
   ·skip
    refine cstY rfl rfl rfl ?_
    let x11 : Nat × SV := (14, .one (.p 7 0))
    let m11a : Nat × LB := (7, .cells 41 zan)
    refine zag ({ s := x11 :: x5 :: bS, m := m11a :: m5a :: bM, k := 8, f := bF }) [0] rfl (by kernel_rfl) (by kernel_rfl) ⟨⟨rfl, rfl⟩, trivial⟩ ⟨?_, trivial⟩
    refine cstY rfl rfl rfl ?_
    refine zaa [] (zb2 0) rfl trivial rfl rfl (fun _ _ => trivial) (fun _ _ => ⟨rfl, rfl⟩) (fun _ _ => ?_)
    let x0 : Nat × SV := (57, ttA (vN 0))
    let f0a : World -> Prop := fun _ => True
    refine zag ({ s := x0 :: x11 :: x5 :: bS, m := m11a :: m5a :: bM, k := 8, f := f0a :: bF }) [2] rfl (by kernel_rfl) (by kernel_rfl) ⟨⟨rfl, rfl⟩, trivial⟩ ⟨?_, trivial⟩
    refine cstY rfl rfl rfl ?_
    refine zaa [] (zb2 0) rfl trivial rfl rfl (fun _ _ => trivial) (fun _ _ => ⟨rfl, rfl⟩) (fun _ _ => ?_)
    let x2 : Nat × SV := (59, ttA (vN 0))
    let f2a : World -> Prop := fun _ => True
    refine zag ({ s := x2 :: x0 :: x11 :: x5 :: bS, m := m11a :: m5a :: bM, k := 8, f := f2a :: f0a :: bF }) [3] rfl (by kernel_rfl) (by kernel_rfl) ⟨⟨rfl, rfl⟩, trivial⟩ ⟨?_, trivial⟩
    refine cstY rfl rfl rfl ?_
    let x3 : Nat × SV := (60, .one (.sl 8 0 2 2))
    let m3a : Nat × LB := (8, .cells 41 (((cN sA).cells ++ (vN 0).cells).map SA.v))
    refine zag ({ s := x3 :: x2 :: x0 :: x11 :: x5 :: bS, m := m3a :: m11a :: m5a :: bM, k := 9, f := f2a :: f0a :: bF }) [4] rfl (by kernel_rfl) (by kernel_rfl) ⟨⟨rfl, trivial⟩, trivial⟩ ⟨?_, trivial⟩
    refine cstY rfl rfl rfl ?_
    refine zad 8 (vs := (cN sA).cells ++ (vN 0).cells) rfl rfl (fun g => ?_)
    refine zaa [] (za1 (some ⟨g, 0, none⟩)) rfl trivial rfl rfl (fun w h => ⟨zbn h.1 (cNa w) (vN0 w), vN0 w⟩) (fun x _ => ?_) (fun x hx => ?_)
    ·obtain ⟨xvk, xvn, xvs, xvla, xvlc, xvls, xvaa, xvac, xvus⟩ := x
     exact ⟨rfl, rfl⟩
    have hf : x.tm = tO := hx
    obtain ⟨xfk, xfn, xfs, xfla, xflc, xfls, xfaa, xfac, xfus⟩ := x
    let Tf : TT := (TT.mk xfk xfn xfs xfla xflc xfls xfaa xfac xfus)
    let x4 : Nat × SV := (61, ttA Tf)
    let m4a : Nat × LB := (8, .dead)
    let f4a : World -> Prop := fun w => TTIn w Tf
    let f4b : World -> Prop := fun w => SlAt w (some ⟨g, 0, none⟩) ((cN sA).cells ++ (vN 0).cells)
    refine zag ({ s := x4 :: x3 :: x2 :: x0 :: x11 :: x5 :: bS, m := m4a :: m3a :: m11a :: m5a :: bM, k := 9, f := f4a :: f4b :: f2a :: f0a :: bF }) [6] rfl (by kernel_rfl) (by kernel_rfl) ⟨⟨rfl, trivial⟩, trivial⟩ ⟨?_, trivial⟩
    refine cstY rfl rfl rfl ?_
    refine zad 6 (vs := [.string sP, .string sQ]) rfl rfl (fun g2 => ?_)
    refine zaa [] (za2 Tf hf (some ⟨g2, 0, none⟩)) rfl trivial rfl rfl (fun w h => ⟨⟨h.2.2.2.2.2.1.1, ⟨h.1, fun h => (by cases h), Nat.le_refl _, by decide⟩⟩, h.2.1⟩) (fun q _ => ?_) (fun q hq => ?_)
    ·obtain ⟨⟨A1, c1⟩, dn, xvk, xvn, xvs, xvla, xvlc, xvls, xvaa, xvac, xvus⟩ := q
     exact ⟨rfl, rfl⟩
    obtain ⟨⟨A1, c1⟩, dn, xik, xin, xis, xila, xilc, xils, xiaa, xiac, xius⟩ := q
    obtain ⟨hq1, hi⟩ := hq
    have hi : (TT.mk xik xin xis xila xilc xils xiaa xiac xius).tm = cT sQ := hi
    obtain ⟨u0, u1, hdn, hp, hq⟩ := zbi dn hq1
    have hdn : dn = [(sP, u0), (sQ, u1)] := hdn
    subst hdn
    obtain ⟨xpk, xpn, xps, xpla, xplc, xpls, xpaa, xpac, xpus⟩ := u0
    obtain ⟨xqk, xqn, xqs, xqla, xqlc, xqls, xqaa, xqac, xqus⟩ := u1
    let Tp : TT := (TT.mk xpk xpn xps xpla xplc xpls xpaa xpac xpus)
    let Tq : TT := (TT.mk xqk xqn xqs xqla xqlc xqls xqaa xqac xqus)
    let Ti : TT := (TT.mk xik xin xis xila xilc xils xiaa xiac xius)
    let x6 : Nat × SV := (63, .tup [.one (.v (.slice A1 2 c1)), .agg (Ti.cells.map SA.v), .one (.v (.bool true))])
    let m6a : Nat × LB := (6, .dead)
    let f6a : World -> Prop := zax A1 [(sP, Tp), (sQ, Tq)] Ti
    let f6b : World -> Prop := fun w => SlAt w (some ⟨g2, 0, none⟩) [.string sP, .string sQ]
    let x7 : Nat × SV := (56, .tup [.one (.v (.slice A1 2 c1)), .agg (Ti.cells.map SA.v), .one (.v (.bool true))])
    refine zae 7 x7.2 _ (by kernel_rfl) ⟨⟨rfl, trivial⟩, trivial⟩ (by kernel_rfl) rfl rfl rfl ?_
    let x8 : Nat × SV := (64, .one (.v (.slice A1 2 c1)))
    refine zae 8 x8.2 _ (by kernel_rfl) ⟨⟨rfl, trivial⟩, trivial⟩ (by kernel_rfl) rfl rfl rfl ?_
    let x9 : Nat × SV := (65, .agg (Ti.cells.map SA.v))
    refine zae 9 x9.2 _ (by kernel_rfl) ⟨⟨rfl, trivial⟩, trivial⟩ (by kernel_rfl) rfl rfl rfl ?_
    let x10 : Nat × SV := (66, .one (.v (.bool true)))
    refine zae 10 x10.2 _ (by kernel_rfl) ⟨⟨rfl, trivial⟩, trivial⟩ (by kernel_rfl) rfl rfl rfl ?_
    let x12 : Nat × SV := (13, .one (.v (.slice A1 2 c1)))
    refine zae 12 x12.2 _ (by kernel_rfl) ⟨⟨rfl, trivial⟩, trivial⟩ (by kernel_rfl) rfl rfl rfl ?_
    refine zag ({ s := x12 :: x10 :: x9 :: x8 :: x7 :: x6 :: x4 :: x3 :: x2 :: x0 :: x11 :: x5 :: bS, m := m6a :: m4a :: m3a :: m11a :: m5a :: bM, k := 9, f := f6a :: f6b :: f4a :: f4b :: f2a :: f0a :: bF }) [13] rfl (by kernel_rfl) (by kernel_rfl) ⟨⟨rfl, trivial⟩, trivial⟩ ⟨?_, trivial⟩
    refine cstY rfl rfl rfl ?_
    let m13a : Nat × LB := (7, .cells 41 (Ti.cells.map SA.v))
    let x14 : Nat × SV := (15, .one (.v (.bool true)))
    refine zae 14 x14.2 _ (by kernel_rfl) ⟨⟨rfl, trivial⟩, trivial⟩ (by kernel_rfl) rfl rfl rfl ?_
    refine zau _ rfl (by kernel_rfl) ⟨⟨rfl, trivial⟩, trivial⟩ ?_
    exact ⟨((A1, c1), (Tp, Tq), Ti), ⟨hp, hq, hi⟩, (zab [(0, .blk 0), (1, .blk 1), (2, .blk 2), (3, .blk 3), (4, .blk 4), (5, .blk 5), (6, .blk 7)] rfl rfl rfl rfl (leB rfl) ⟨⟨_, rfl, rfl⟩, ⟨_, rfl, rfl⟩, ⟨_, rfl, rfl⟩, ⟨_, rfl, rfl⟩, ⟨_, rfl, rfl⟩, ⟨_, rfl, rfl⟩, ⟨_, rfl, rfl⟩, ⟨_, rfl, rfl⟩, ⟨_, rfl, rfl⟩, ⟨_, rfl, rfl⟩, ⟨_, rfl, rfl⟩, ⟨_, rfl, rfl⟩, ⟨_, rfl, rfl⟩, trivial⟩ ⟨⟨_, rfl, rfl⟩, ⟨_, rfl, rfl⟩, ⟨_, rfl, rfl⟩, ⟨_, rfl, rfl⟩, ⟨_, rfl, rfl⟩, ⟨_, rfl, rfl⟩, ⟨_, rfl, rfl⟩, trivial⟩ ⟨⟨amG.up _, fun w h => h.2.2.2.2.2.2.1⟩, ⟨zax.up _ _ _, fun w h => h.1⟩, trivial⟩)⟩
  ·skip
   refine cstY rfl rfl rfl ?_
   let x11 : Nat × SV := (14, .one (.p 6 0))
   let m11a : Nat × LB := (6, .cells 41 zan)
   refine zag ({ s := x11 :: bS, m := m11a :: bM, k := 7, f := bF }) [0, 5] rfl (by kernel_rfl) (by kernel_rfl) ⟨⟨rfl, rfl⟩, trivial⟩ ⟨?_, ?_, trivial⟩
   ·skip
    refine cstY rfl rfl rfl ?_
    refine zaa [] (zb2 0) rfl trivial rfl rfl (fun _ _ => trivial) (fun _ _ => ⟨rfl, rfl⟩) (fun _ _ => ?_)
    let x0 : Nat × SV := (57, ttA (vN 0))
    let f0a : World -> Prop := fun _ => True
    refine zag ({ s := x0 :: x11 :: bS, m := m11a :: bM, k := 7, f := f0a :: bF }) [2, 5] rfl (by kernel_rfl) (by kernel_rfl) ⟨⟨rfl, rfl⟩, trivial⟩ ⟨?_, ?_, trivial⟩
    ·skip
     refine cstY rfl rfl rfl ?_
     refine zaa [] (zb2 0) rfl trivial rfl rfl (fun _ _ => trivial) (fun _ _ => ⟨rfl, rfl⟩) (fun _ _ => ?_)
     let x2 : Nat × SV := (59, ttA (vN 0))
     let f2a : World -> Prop := fun _ => True
     refine zag ({ s := x2 :: x0 :: x11 :: bS, m := m11a :: bM, k := 7, f := f2a :: f0a :: bF }) [3, 5] rfl (by kernel_rfl) (by kernel_rfl) ⟨⟨rfl, rfl⟩, trivial⟩ ⟨?_, ?_, trivial⟩
     ·skip
      refine cstY rfl rfl rfl ?_
      let x3 : Nat × SV := (60, .one (.sl 7 0 2 2))
      let m3a : Nat × LB := (7, .cells 41 (((cN sA).cells ++ (vN 0).cells).map SA.v))
      refine zag ({ s := x3 :: x2 :: x0 :: x11 :: bS, m := m3a :: m11a :: bM, k := 8, f := f2a :: f0a :: bF }) [4, 5] rfl (by kernel_rfl) (by kernel_rfl) ⟨⟨rfl, trivial⟩, trivial⟩ ⟨?_, ?_, trivial⟩
      ·skip
       refine cstY rfl rfl rfl ?_
       refine zad 7 (vs := (cN sA).cells ++ (vN 0).cells) rfl rfl (fun g => ?_)
       refine zaa [] (za1 (some ⟨g, 0, none⟩)) rfl trivial rfl rfl (fun w h => ⟨zbn h.1 (cNa w) (vN0 w), vN0 w⟩) (fun x _ => ?_) (fun x hx => ?_)
       ·obtain ⟨xvk, xvn, xvs, xvla, xvlc, xvls, xvaa, xvac, xvus⟩ := x
        exact ⟨rfl, rfl⟩
       have hf : x.tm = tO := hx
       obtain ⟨xfk, xfn, xfs, xfla, xflc, xfls, xfaa, xfac, xfus⟩ := x
       let Tf : TT := (TT.mk xfk xfn xfs xfla xflc xfls xfaa xfac xfus)
       let x4 : Nat × SV := (61, ttA Tf)
       let m4a : Nat × LB := (7, .dead)
       let f4a : World -> Prop := fun w => TTIn w Tf
       let f4b : World -> Prop := fun w => SlAt w (some ⟨g, 0, none⟩) ((cN sA).cells ++ (vN 0).cells)
       refine zag ({ s := x4 :: x3 :: x2 :: x0 :: x11 :: bS, m := m4a :: m3a :: m11a :: bM, k := 8, f := f4a :: f4b :: f2a :: f0a :: bF }) [5] rfl (by kernel_rfl) (by kernel_rfl) ⟨⟨rfl, trivial⟩, trivial⟩ ⟨?_, trivial⟩
       refine cstY rfl rfl rfl ?_
       let x5 : Nat × SV := (62, .one (.sl 8 0 2 2))
       let m5a : Nat × LB := (8, .cells 9 [.v (.string sP), .v (.string sQ)])
       refine zag ({ s := x5 :: x4 :: x3 :: x2 :: x0 :: x11 :: bS, m := m5a :: m4a :: m3a :: m11a :: bM, k := 9, f := f4a :: f4b :: f2a :: f0a :: bF }) [6] rfl (by kernel_rfl) (by kernel_rfl) ⟨⟨rfl, trivial⟩, trivial⟩ ⟨?_, trivial⟩
       refine cstY rfl rfl rfl ?_
       refine zad 8 (vs := [.string sP, .string sQ]) rfl rfl (fun g2 => ?_)
       refine zaa [] (za2 Tf hf (some ⟨g2, 0, none⟩)) rfl trivial rfl rfl (fun w h => ⟨⟨h.2.2.2.2.2.1.1, ⟨h.1, fun h => (by cases h), Nat.le_refl _, by decide⟩⟩, h.2.1⟩) (fun q _ => ?_) (fun q hq => ?_)
       ·obtain ⟨⟨A1, c1⟩, dn, xvk, xvn, xvs, xvla, xvlc, xvls, xvaa, xvac, xvus⟩ := q
        exact ⟨rfl, rfl⟩
       obtain ⟨⟨A1, c1⟩, dn, xik, xin, xis, xila, xilc, xils, xiaa, xiac, xius⟩ := q
       obtain ⟨hq1, hi⟩ := hq
       have hi : (TT.mk xik xin xis xila xilc xils xiaa xiac xius).tm = cT sQ := hi
       obtain ⟨u0, u1, hdn, hp, hq⟩ := zbi dn hq1
       have hdn : dn = [(sP, u0), (sQ, u1)] := hdn
       subst hdn
       obtain ⟨xpk, xpn, xps, xpla, xplc, xpls, xpaa, xpac, xpus⟩ := u0
       obtain ⟨xqk, xqn, xqs, xqla, xqlc, xqls, xqaa, xqac, xqus⟩ := u1
       let Tp : TT := (TT.mk xpk xpn xps xpla xplc xpls xpaa xpac xpus)
       let Tq : TT := (TT.mk xqk xqn xqs xqla xqlc xqls xqaa xqac xqus)
       let Ti : TT := (TT.mk xik xin xis xila xilc xils xiaa xiac xius)
       let x6 : Nat × SV := (63, .tup [.one (.v (.slice A1 2 c1)), .agg (Ti.cells.map SA.v), .one (.v (.bool true))])
       let m6a : Nat × LB := (8, .dead)
       let f6a : World -> Prop := zax A1 [(sP, Tp), (sQ, Tq)] Ti
       let f6b : World -> Prop := fun w => SlAt w (some ⟨g2, 0, none⟩) [.string sP, .string sQ]
       let x7 : Nat × SV := (56, .tup [.one (.v (.slice A1 2 c1)), .agg (Ti.cells.map SA.v), .one (.v (.bool true))])
       refine zae 7 x7.2 _ (by kernel_rfl) ⟨⟨rfl, trivial⟩, trivial⟩ (by kernel_rfl) rfl rfl rfl ?_
       let x8 : Nat × SV := (64, .one (.v (.slice A1 2 c1)))
       refine zae 8 x8.2 _ (by kernel_rfl) ⟨⟨rfl, trivial⟩, trivial⟩ (by kernel_rfl) rfl rfl rfl ?_
       let x9 : Nat × SV := (65, .agg (Ti.cells.map SA.v))
       refine zae 9 x9.2 _ (by kernel_rfl) ⟨⟨rfl, trivial⟩, trivial⟩ (by kernel_rfl) rfl rfl rfl ?_
       let x10 : Nat × SV := (66, .one (.v (.bool true)))
       refine zae 10 x10.2 _ (by kernel_rfl) ⟨⟨rfl, trivial⟩, trivial⟩ (by kernel_rfl) rfl rfl rfl ?_
       let x12 : Nat × SV := (13, .one (.v (.slice A1 2 c1)))
       refine zae 12 x12.2 _ (by kernel_rfl) ⟨⟨rfl, trivial⟩, trivial⟩ (by kernel_rfl) rfl rfl rfl ?_
       refine zag ({ s := x12 :: x10 :: x9 :: x8 :: x7 :: x6 :: x5 :: x4 :: x3 :: x2 :: x0 :: x11 :: bS, m := m6a :: m5a :: m4a :: m3a :: m11a :: bM, k := 9, f := f6a :: f6b :: f4a :: f4b :: f2a :: f0a :: bF }) [13] rfl (by kernel_rfl) (by kernel_rfl) ⟨⟨rfl, trivial⟩, trivial⟩ ⟨?_, trivial⟩
       refine cstY rfl rfl rfl ?_
       let m13a : Nat × LB := (6, .cells 41 (Ti.cells.map SA.v))
       let x14 : Nat × SV := (15, .one (.v (.bool true)))
       refine zae 14 x14.2 _ (by kernel_rfl) ⟨⟨rfl, trivial⟩, trivial⟩ (by kernel_rfl) rfl rfl rfl ?_
       refine zau _ rfl (by kernel_rfl) ⟨⟨rfl, trivial⟩, trivial⟩ ?_
       exact ⟨((A1, c1), (Tp, Tq), Ti), ⟨hp, hq, hi⟩, (zab [(0, .blk 0), (1, .blk 1), (2, .blk 2), (3, .blk 3), (4, .blk 4), (5, .blk 5), (6, .blk 6)] rfl rfl rfl rfl (leB rfl) ⟨⟨_, rfl, rfl⟩, ⟨_, rfl, rfl⟩, ⟨_, rfl, rfl⟩, ⟨_, rfl, rfl⟩, ⟨_, rfl, rfl⟩, ⟨_, rfl, rfl⟩, ⟨_, rfl, rfl⟩, ⟨_, rfl, rfl⟩, ⟨_, rfl, rfl⟩, ⟨_, rfl, rfl⟩, ⟨_, rfl, rfl⟩, ⟨_, rfl, rfl⟩, ⟨_, rfl, rfl⟩, trivial⟩ ⟨⟨_, rfl, rfl⟩, ⟨_, rfl, rfl⟩, ⟨_, rfl, rfl⟩, ⟨_, rfl, rfl⟩, ⟨_, rfl, rfl⟩, ⟨_, rfl, rfl⟩, ⟨_, rfl, rfl⟩, trivial⟩ ⟨⟨amG.up _, fun w h => h.2.2.2.2.2.2.1⟩, ⟨zax.up _ _ _, fun w h => h.1⟩, trivial⟩)⟩
      ·skip
       refine cstY rfl rfl rfl ?_
       let x5 : Nat × SV := (62, .one (.sl 8 0 2 2))
       let m5a : Nat × LB := (8, .cells 9 [.v (.string sP), .v (.string sQ)])
       refine zag ({ s := x5 :: x3 :: x2 :: x0 :: x11 :: bS, m := m5a :: m3a :: m11a :: bM, k := 9, f := f2a :: f0a :: bF }) [4] rfl (by kernel_rfl) (by kernel_rfl) ⟨⟨rfl, trivial⟩, trivial⟩ ⟨?_, trivial⟩
       refine cstY rfl rfl rfl ?_
       refine zad 7 (vs := (cN sA).cells ++ (vN 0).cells) rfl rfl (fun g => ?_)
       refine zaa [] (za1 (some ⟨g, 0, none⟩)) rfl trivial rfl rfl (fun w h => ⟨zbn h.1 (cNa w) (vN0 w), vN0 w⟩) (fun x _ => ?_) (fun x hx => ?_)
       ·obtain ⟨xvk, xvn, xvs, xvla, xvlc, xvls, xvaa, xvac, xvus⟩ := x
        exact ⟨rfl, rfl⟩
       have hf : x.tm = tO := hx
       obtain ⟨xfk, xfn, xfs, xfla, xflc, xfls, xfaa, xfac, xfus⟩ := x
       let Tf : TT := (TT.mk xfk xfn xfs xfla xflc xfls xfaa xfac xfus)
       let x4 : Nat × SV := (61, ttA Tf)
       let m4a : Nat × LB := (7, .dead)
       let f4a : World -> Prop := fun w => TTIn w Tf
       let f4b : World -> Prop := fun w => SlAt w (some ⟨g, 0, none⟩) ((cN sA).cells ++ (vN 0).cells)
       refine zag ({ s := x4 :: x5 :: x3 :: x2 :: x0 :: x11 :: bS, m := m4a :: m5a :: m3a :: m11a :: bM, k := 9, f := f4a :: f4b :: f2a :: f0a :: bF }) [6] rfl (by kernel_rfl) (by kernel_rfl) ⟨⟨rfl, trivial⟩, trivial⟩ ⟨?_, trivial⟩
       refine cstY rfl rfl rfl ?_
       refine zad 8 (vs := [.string sP, .string sQ]) rfl rfl (fun g2 => ?_)
       refine zaa [] (za2 Tf hf (some ⟨g2, 0, none⟩)) rfl trivial rfl rfl (fun w h => ⟨⟨h.2.2.2.2.2.1.1, ⟨h.1, fun h => (by cases h), Nat.le_refl _, by decide⟩⟩, h.2.1⟩) (fun q _ => ?_) (fun q hq => ?_)
       ·obtain ⟨⟨A1, c1⟩, dn, xvk, xvn, xvs, xvla, xvlc, xvls, xvaa, xvac, xvus⟩ := q
        exact ⟨rfl, rfl⟩
       obtain ⟨⟨A1, c1⟩, dn, xik, xin, xis, xila, xilc, xils, xiaa, xiac, xius⟩ := q
       obtain ⟨hq1, hi⟩ := hq
       have hi : (TT.mk xik xin xis xila xilc xils xiaa xiac xius).tm = cT sQ := hi
       obtain ⟨u0, u1, hdn, hp, hq⟩ := zbi dn hq1
       have hdn : dn = [(sP, u0), (sQ, u1)] := hdn
       subst hdn
       obtain ⟨xpk, xpn, xps, xpla, xplc, xpls, xpaa, xpac, xpus⟩ := u0
       obtain ⟨xqk, xqn, xqs, xqla, xqlc, xqls, xqaa, xqac, xqus⟩ := u1
       let Tp : TT := (TT.mk xpk xpn xps xpla xplc xpls xpaa xpac xpus)
       let Tq : TT := (TT.mk xqk xqn xqs xqla xqlc xqls xqaa xqac xqus)
       let Ti : TT := (TT.mk xik xin xis xila xilc xils xiaa xiac xius)
       let x6 : Nat × SV := (63, .tup [.one (.v (.slice A1 2 c1)), .agg (Ti.cells.map SA.v), .one (.v (.bool true))])
       let m6a : Nat × LB := (8, .dead)
       let f6a : World -> Prop := zax A1 [(sP, Tp), (sQ, Tq)] Ti
       let f6b : World -> Prop := fun w => SlAt w (some ⟨g2, 0, none⟩) [.string sP, .string sQ]
       let x7 : Nat × SV := (56, .tup [.one (.v (.slice A1 2 c1)), .agg (Ti.cells.map SA.v), .one (.v (.bool true))])
       refine zae 7 x7.2 _ (by kernel_rfl) ⟨⟨rfl, trivial⟩, trivial⟩ (by kernel_rfl) rfl rfl rfl ?_
       let x8 : Nat × SV := (64, .one (.v (.slice A1 2 c1)))
       refine zae 8 x8.2 _ (by kernel_rfl) ⟨⟨rfl, trivial⟩, trivial⟩ (by kernel_rfl) rfl rfl rfl ?_
       let x9 : Nat × SV := (65, .agg (Ti.cells.map SA.v))
       refine zae 9 x9.2 _ (by kernel_rfl) ⟨⟨rfl, trivial⟩, trivial⟩ (by kernel_rfl) rfl rfl rfl ?_
       let x10 : Nat × SV := (66, .one (.v (.bool true)))
       refine zae 10 x10.2 _ (by kernel_rfl) ⟨⟨rfl, trivial⟩, trivial⟩ (by kernel_rfl) rfl rfl rfl ?_
       let x12 : Nat × SV := (13, .one (.v (.slice A1 2 c1)))
       refine zae 12 x12.2 _ (by kernel_rfl) ⟨⟨rfl, trivial⟩, trivial⟩ (by kernel_rfl) rfl rfl rfl ?_
       refine zag ({ s := x12 :: x10 :: x9 :: x8 :: x7 :: x6 :: x4 :: x5 :: x3 :: x2 :: x0 :: x11 :: bS, m := m6a :: m4a :: m5a :: m3a :: m11a :: bM, k := 9, f := f6a :: f6b :: f4a :: f4b :: f2a :: f0a :: bF }) [13] rfl (by kernel_rfl) (by kernel_rfl) ⟨⟨rfl, trivial⟩, trivial⟩ ⟨?_, trivial⟩
       refine cstY rfl rfl rfl ?_
       let m13a : Nat × LB := (6, .cells 41 (Ti.cells.map SA.v))
       let x14 : Nat × SV := (15, .one (.v (.bool true)))
       refine zae 14 x14.2 _ (by kernel_rfl) ⟨⟨rfl, trivial⟩, trivial⟩ (by kernel_rfl) rfl rfl rfl ?_
       refine zau _ rfl (by kernel_rfl) ⟨⟨rfl, trivial⟩, trivial⟩ ?_
       exact ⟨((A1, c1), (Tp, Tq), Ti), ⟨hp, hq, hi⟩, (zab [(0, .blk 0), (1, .blk 1), (2, .blk 2), (3, .blk 3), (4, .blk 4), (5, .blk 5), (6, .blk 6)] rfl rfl rfl rfl (leB rfl) ⟨⟨_, rfl, rfl⟩, ⟨_, rfl, rfl⟩, ⟨_, rfl, rfl⟩, ⟨_, rfl, rfl⟩, ⟨_, rfl, rfl⟩, ⟨_, rfl, rfl⟩, ⟨_, rfl, rfl⟩, ⟨_, rfl, rfl⟩, ⟨_, rfl, rfl⟩, ⟨_, rfl, rfl⟩, ⟨_, rfl, rfl⟩, ⟨_, rfl, rfl⟩, ⟨_, rfl, rfl⟩, trivial⟩ ⟨⟨_, rfl, rfl⟩, ⟨_, rfl, rfl⟩, ⟨_, rfl, rfl⟩, ⟨_, rfl, rfl⟩, ⟨_, rfl, rfl⟩, ⟨_, rfl, rfl⟩, ⟨_, rfl, rfl⟩, trivial⟩ ⟨⟨amG.up _, fun w h => h.2.2.2.2.2.2.1⟩, ⟨zax.up _ _ _, fun w h => h.1⟩, trivial⟩)⟩
     ·skip
      refine cstY rfl rfl rfl ?_
      let x5 : Nat × SV := (62, .one (.sl 7 0 2 2))
      let m5a : Nat × LB := (7, .cells 9 [.v (.string sP), .v (.string sQ)])
      refine zag ({ s := x5 :: x2 :: x0 :: x11 :: bS, m := m5a :: m11a :: bM, k := 8, f := f2a :: f0a :: bF }) [3] rfl (by kernel_rfl) (by kernel_rfl) ⟨⟨rfl, rfl⟩, trivial⟩ ⟨?_, trivial⟩
      refine cstY rfl rfl rfl ?_
      let x3 : Nat × SV := (60, .one (.sl 8 0 2 2))
      let m3a : Nat × LB := (8, .cells 41 (((cN sA).cells ++ (vN 0).cells).map SA.v))
      refine zag ({ s := x3 :: x5 :: x2 :: x0 :: x11 :: bS, m := m3a :: m5a :: m11a :: bM, k := 9, f := f2a :: f0a :: bF }) [4] rfl (by kernel_rfl) (by kernel_rfl) ⟨⟨rfl, trivial⟩, trivial⟩ ⟨?_, trivial⟩
      refine cstY rfl rfl rfl ?_
      refine zad 8 (vs := (cN sA).cells ++ (vN 0).cells) rfl rfl (fun g => ?_)
      refine zaa [] (za1 (some ⟨g, 0, none⟩)) rfl trivial rfl rfl (fun w h => ⟨zbn h.1 (cNa w) (vN0 w), vN0 w⟩) (fun x _ => ?_) (fun x hx => ?_)
      ·obtain ⟨xvk, xvn, xvs, xvla, xvlc, xvls, xvaa, xvac, xvus⟩ := x
       exact ⟨rfl, rfl⟩
      have hf : x.tm = tO := hx
      obtain ⟨xfk, xfn, xfs, xfla, xflc, xfls, xfaa, xfac, xfus⟩ := x
      let Tf : TT := (TT.mk xfk xfn xfs xfla xflc xfls xfaa xfac xfus)
      let x4 : Nat × SV := (61, ttA Tf)
      let m4a : Nat × LB := (8, .dead)
      let f4a : World -> Prop := fun w => TTIn w Tf
      let f4b : World -> Prop := fun w => SlAt w (some ⟨g, 0, none⟩) ((cN sA).cells ++ (vN 0).cells)
      refine zag ({ s := x4 :: x3 :: x5 :: x2 :: x0 :: x11 :: bS, m := m4a :: m3a :: m5a :: m11a :: bM, k := 9, f := f4a :: f4b :: f2a :: f0a :: bF }) [6] rfl (by kernel_rfl) (by kernel_rfl) ⟨⟨rfl, trivial⟩, trivial⟩ ⟨?_, trivial⟩
      refine cstY rfl rfl rfl ?_
      refine zad 7 (vs := [.string sP, .string sQ]) rfl rfl (fun g2 => ?_)
      refine zaa [] (za2 Tf hf (some ⟨g2, 0, none⟩)) rfl trivial rfl rfl (fun w h => ⟨⟨h.2.2.2.2.2.1.1, ⟨h.1, fun h => (by cases h), Nat.le_refl _, by decide⟩⟩, h.2.1⟩) (fun q _ => ?_) (fun q hq => ?_)
      ·obtain ⟨⟨A1, c1⟩, dn, xvk, xvn, xvs, xvla, xvlc, xvls, xvaa, xvac, xvus⟩ := q
       exact ⟨rfl, rfl⟩
      obtain ⟨⟨A1, c1⟩, dn, xik, xin, xis, xila, xilc, xils, xiaa, xiac, xius⟩ := q
      obtain ⟨hq1, hi⟩ := hq
      have hi : (TT.mk xik xin xis xila xilc xils xiaa xiac xius).tm = cT sQ := hi
      obtain ⟨u0, u1, hdn, hp, hq⟩ := zbi dn hq1
      have hdn : dn = [(sP, u0), (sQ, u1)] := hdn
      subst hdn
      obtain ⟨xpk, xpn, xps, xpla, xplc, xpls, xpaa, xpac, xpus⟩ := u0
      obtain ⟨xqk, xqn, xqs, xqla, xqlc, xqls, xqaa, xqac, xqus⟩ := u1
      let Tp : TT := (TT.mk xpk xpn xps xpla xplc xpls xpaa xpac xpus)
      let Tq : TT := (TT.mk xqk xqn xqs xqla xqlc xqls xqaa xqac xqus)
      let Ti : TT := (TT.mk xik xin xis xila xilc xils xiaa xiac xius)
      let x6 : Nat × SV := (63, .tup [.one (.v (.slice A1 2 c1)), .agg (Ti.cells.map SA.v), .one (.v (.bool true))])
      let m6a : Nat × LB := (7, .dead)
      let f6a : World -> Prop := zax A1 [(sP, Tp), (sQ, Tq)] Ti
      let f6b : World -> Prop := fun w => SlAt w (some ⟨g2, 0, none⟩) [.string sP, .string sQ]
      let x7 : Nat × SV := (56, .tup [.one (.v (.slice A1 2 c1)), .agg (Ti.cells.map SA.v), .one (.v (.bool true))])
      refine zae 7 x7.2 _ (by kernel_rfl) ⟨⟨rfl, trivial⟩, trivial⟩ (by kernel_rfl) rfl rfl rfl ?_
      let x8 : Nat × SV := (64, .one (.v (.slice A1 2 c1)))
      refine zae 8 x8.2 _ (by kernel_rfl) ⟨⟨rfl, trivial⟩, trivial⟩ (by kernel_rfl) rfl rfl rfl ?_
      let x9 : Nat × SV := (65, .agg (Ti.cells.map SA.v))
      refine zae 9 x9.2 _ (by kernel_rfl) ⟨⟨rfl, trivial⟩, trivial⟩ (by kernel_rfl) rfl rfl rfl ?_
      let x10 : Nat × SV := (66, .one (.v (.bool true)))
      refine zae 10 x10.2 _ (by kernel_rfl) ⟨⟨rfl, trivial⟩, trivial⟩ (by kernel_rfl) rfl rfl rfl ?_
      let x12 : Nat × SV := (13, .one (.v (.slice A1 2 c1)))
      refine zae 12 x12.2 _ (by kernel_rfl) ⟨⟨rfl, trivial⟩, trivial⟩ (by kernel_rfl) rfl rfl rfl ?_
      refine zag ({ s := x12 :: x10 :: x9 :: x8 :: x7 :: x6 :: x4 :: x3 :: x5 :: x2 :: x0 :: x11 :: bS, m := m6a :: m4a :: m3a :: m5a :: m11a :: bM, k := 9, f := f6a :: f6b :: f4a :: f4b :: f2a :: f0a :: bF }) [13] rfl (by kernel_rfl) (by kernel_rfl) ⟨⟨rfl, trivial⟩, trivial⟩ ⟨?_, trivial⟩
      refine cstY rfl rfl rfl ?_
      let m13a : Nat × LB := (6, .cells 41 (Ti.cells.map SA.v))
      let x14 : Nat × SV := (15, .one (.v (.bool true)))
      refine zae 14 x14.2 _ (by kernel_rfl) ⟨⟨rfl, trivial⟩, trivial⟩ (by kernel_rfl) rfl rfl rfl ?_
      refine zau _ rfl (by kernel_rfl) ⟨⟨rfl, trivial⟩, trivial⟩ ?_
      exact ⟨((A1, c1), (Tp, Tq), Ti), ⟨hp, hq, hi⟩, (zab [(0, .blk 0), (1, .blk 1), (2, .blk 2), (3, .blk 3), (4, .blk 4), (5, .blk 5), (6, .blk 6)] rfl rfl rfl rfl (leB rfl) ⟨⟨_, rfl, rfl⟩, ⟨_, rfl, rfl⟩, ⟨_, rfl, rfl⟩, ⟨_, rfl, rfl⟩, ⟨_, rfl, rfl⟩, ⟨_, rfl, rfl⟩, ⟨_, rfl, rfl⟩, ⟨_, rfl, rfl⟩, ⟨_, rfl, rfl⟩, ⟨_, rfl, rfl⟩, ⟨_, rfl, rfl⟩, ⟨_, rfl, rfl⟩, ⟨_, rfl, rfl⟩, trivial⟩ ⟨⟨_, rfl, rfl⟩, ⟨_, rfl, rfl⟩, ⟨_, rfl, rfl⟩, ⟨_, rfl, rfl⟩, ⟨_, rfl, rfl⟩, ⟨_, rfl, rfl⟩, ⟨_, rfl, rfl⟩, trivial⟩ ⟨⟨amG.up _, fun w h => h.2.2.2.2.2.2.1⟩, ⟨zax.up _ _ _, fun w h => h.1⟩, trivial⟩)⟩
    ·skip
     refine cstY rfl rfl rfl ?_
     let x5 : Nat × SV := (62, .one (.sl 7 0 2 2))
     let m5a : Nat × LB := (7, .cells 9 [.v (.string sP), .v (.string sQ)])
     refine zag ({ s := x5 :: x0 :: x11 :: bS, m := m5a :: m11a :: bM, k := 8, f := f0a :: bF }) [2] rfl (by kernel_rfl) (by kernel_rfl) ⟨⟨rfl, rfl⟩, trivial⟩ ⟨?_, trivial⟩
     refine cstY rfl rfl rfl ?_
     refine zaa [] (zb2 0) rfl trivial rfl rfl (fun _ _ => trivial) (fun _ _ => ⟨rfl, rfl⟩) (fun _ _ => ?_)
     let x2 : Nat × SV := (59, ttA (vN 0))
     let f2a : World -> Prop := fun _ => True
     refine zag ({ s := x2 :: x5 :: x0 :: x11 :: bS, m := m5a :: m11a :: bM, k := 8, f := f2a :: f0a :: bF }) [3] rfl (by kernel_rfl) (by kernel_rfl) ⟨⟨rfl, rfl⟩, trivial⟩ ⟨?_, trivial⟩
     refine cstY rfl rfl rfl ?_
     let x3 : Nat × SV := (60, .one (.sl 8 0 2 2))
     let m3a : Nat × LB := (8, .cells 41 (((cN sA).cells ++ (vN 0).cells).map SA.v))
     refine zag ({ s := x3 :: x2 :: x5 :: x0 :: x11 :: bS, m := m3a :: m5a :: m11a :: bM, k := 9, f := f2a :: f0a :: bF }) [4] rfl (by kernel_rfl) (by kernel_rfl) ⟨⟨rfl, trivial⟩, trivial⟩ ⟨?_, trivial⟩
     refine cstY rfl rfl rfl ?_
     refine zad 8 (vs := (cN sA).cells ++ (vN 0).cells) rfl rfl (fun g => ?_)
     refine zaa [] (za1 (some ⟨g, 0, none⟩)) rfl trivial rfl rfl (fun w h => ⟨zbn h.1 (cNa w) (vN0 w), vN0 w⟩) (fun x _ => ?_) (fun x hx => ?_)
     ·obtain ⟨xvk, xvn, xvs, xvla, xvlc, xvls, xvaa, xvac, xvus⟩ := x
      exact ⟨rfl, rfl⟩
     have hf : x.tm = tO := hx
     obtain ⟨xfk, xfn, xfs, xfla, xflc, xfls, xfaa, xfac, xfus⟩ := x
     let Tf : TT := (TT.mk xfk xfn xfs xfla xflc xfls xfaa xfac xfus)
     let x4 : Nat × SV := (61, ttA Tf)
     let m4a : Nat × LB := (8, .dead)
     let f4a : World -> Prop := fun w => TTIn w Tf
     let f4b : World -> Prop := fun w => SlAt w (some ⟨g, 0, none⟩) ((cN sA).cells ++ (vN 0).cells)
     refine zag ({ s := x4 :: x3 :: x2 :: x5 :: x0 :: x11 :: bS, m := m4a :: m3a :: m5a :: m11a :: bM, k := 9, f := f4a :: f4b :: f2a :: f0a :: bF }) [6] rfl (by kernel_rfl) (by kernel_rfl) ⟨⟨rfl, trivial⟩, trivial⟩ ⟨?_, trivial⟩
     refine cstY rfl rfl rfl ?_
     refine zad 7 (vs := [.string sP, .string sQ]) rfl rfl (fun g2 => ?_)
     refine zaa [] (za2 Tf hf (some ⟨g2, 0, none⟩)) rfl trivial rfl rfl (fun w h => ⟨⟨h.2.2.2.2.2.1.1, ⟨h.1, fun h => (by cases h), Nat.le_refl _, by decide⟩⟩, h.2.1⟩) (fun q _ => ?_) (fun q hq => ?_)
     ·obtain ⟨⟨A1, c1⟩, dn, xvk, xvn, xvs, xvla, xvlc, xvls, xvaa, xvac, xvus⟩ := q
      exact ⟨rfl, rfl⟩
     obtain ⟨⟨A1, c1⟩, dn, xik, xin, xis, xila, xilc, xils, xiaa, xiac, xius⟩ := q
     obtain ⟨hq1, hi⟩ := hq
     have hi : (TT.mk xik xin xis xila xilc xils xiaa xiac xius).tm = cT sQ := hi
     obtain ⟨u0, u1, hdn, hp, hq⟩ := zbi dn hq1
     have hdn : dn = [(sP, u0), (sQ, u1)] := hdn
     subst hdn
     obtain ⟨xpk, xpn, xps, xpla, xplc, xpls, xpaa, xpac, xpus⟩ := u0
     obtain ⟨xqk, xqn, xqs, xqla, xqlc, xqls, xqaa, xqac, xqus⟩ := u1
     let Tp : TT := (TT.mk xpk xpn xps xpla xplc xpls xpaa xpac xpus)
     let Tq : TT := (TT.mk xqk xqn xqs xqla xqlc xqls xqaa xqac xqus)
     let Ti : TT := (TT.mk xik xin xis xila xilc xils xiaa xiac xius)
     let x6 : Nat × SV := (63, .tup [.one (.v (.slice A1 2 c1)), .agg (Ti.cells.map SA.v), .one (.v (.bool true))])
     let m6a : Nat × LB := (7, .dead)
     let f6a : World -> Prop := zax A1 [(sP, Tp), (sQ, Tq)] Ti
     let f6b : World -> Prop := fun w => SlAt w (some ⟨g2, 0, none⟩) [.string sP, .string sQ]
     let x7 : Nat × SV := (56, .tup [.one (.v (.slice A1 2 c1)), .agg (Ti.cells.map SA.v), .one (.v (.bool true))])
     refine zae 7 x7.2 _ (by kernel_rfl) ⟨⟨rfl, trivial⟩, trivial⟩ (by kernel_rfl) rfl rfl rfl ?_
     let x8 : Nat × SV := (64, .one (.v (.slice A1 2 c1)))
     refine zae 8 x8.2 _ (by kernel_rfl) ⟨⟨rfl, trivial⟩, trivial⟩ (by kernel_rfl) rfl rfl rfl ?_
     let x9 : Nat × SV := (65, .agg (Ti.cells.map SA.v))
     refine zae 9 x9.2 _ (by kernel_rfl) ⟨⟨rfl, trivial⟩, trivial⟩ (by kernel_rfl) rfl rfl rfl ?_
     let x10 : Nat × SV := (66, .one (.v (.bool true)))
     refine zae 10 x10.2 _ (by kernel_rfl) ⟨⟨rfl, trivial⟩, trivial⟩ (by kernel_rfl) rfl rfl rfl ?_
     let x12 : Nat × SV := (13, .one (.v (.slice A1 2 c1)))
     refine zae 12 x12.2 _ (by kernel_rfl) ⟨⟨rfl, trivial⟩, trivial⟩ (by kernel_rfl) rfl rfl rfl ?_
     refine zag ({ s := x12 :: x10 :: x9 :: x8 :: x7 :: x6 :: x4 :: x3 :: x2 :: x5 :: x0 :: x11 :: bS, m := m6a :: m4a :: m3a :: m5a :: m11a :: bM, k := 9, f := f6a :: f6b :: f4a :: f4b :: f2a :: f0a :: bF }) [13] rfl (by kernel_rfl) (by kernel_rfl) ⟨⟨rfl, trivial⟩, trivial⟩ ⟨?_, trivial⟩
     refine cstY rfl rfl rfl ?_
     let m13a : Nat × LB := (6, .cells 41 (Ti.cells.map SA.v))
     let x14 : Nat × SV := (15, .one (.v (.bool true)))
     refine zae 14 x14.2 _ (by kernel_rfl) ⟨⟨rfl, trivial⟩, trivial⟩ (by kernel_rfl) rfl rfl rfl ?_
     refine zau _ rfl (by kernel_rfl) ⟨⟨rfl, trivial⟩, trivial⟩ ?_
     exact ⟨((A1, c1), (Tp, Tq), Ti), ⟨hp, hq, hi⟩, (zab [(0, .blk 0), (1, .blk 1), (2, .blk 2), (3, .blk 3), (4, .blk 4), (5, .blk 5), (6, .blk 6)] rfl rfl rfl rfl (leB rfl) ⟨⟨_, rfl, rfl⟩, ⟨_, rfl, rfl⟩, ⟨_, rfl, rfl⟩, ⟨_, rfl, rfl⟩, ⟨_, rfl, rfl⟩, ⟨_, rfl, rfl⟩, ⟨_, rfl, rfl⟩, ⟨_, rfl, rfl⟩, ⟨_, rfl, rfl⟩, ⟨_, rfl, rfl⟩, ⟨_, rfl, rfl⟩, ⟨_, rfl, rfl⟩, ⟨_, rfl, rfl⟩, trivial⟩ ⟨⟨_, rfl, rfl⟩, ⟨_, rfl, rfl⟩, ⟨_, rfl, rfl⟩, ⟨_, rfl, rfl⟩, ⟨_, rfl, rfl⟩, ⟨_, rfl, rfl⟩, ⟨_, rfl, rfl⟩, trivial⟩ ⟨⟨amG.up _, fun w h => h.2.2.2.2.2.2.1⟩, ⟨zax.up _ _ _, fun w h => h.1⟩, trivial⟩)⟩
   ·skip
    refine cstY rfl rfl rfl ?_
    let x5 : Nat × SV := (62, .one (.sl 7 0 2 2))
    let m5a : Nat × LB := (7, .cells 9 [.v (.string sP), .v (.string sQ)])
    refine zag ({ s := x5 :: x11 :: bS, m := m5a :: m11a :: bM, k := 8, f := bF }) [0] rfl (by kernel_rfl) (by kernel_rfl) ⟨⟨rfl, rfl⟩, trivial⟩ ⟨?_, trivial⟩
    refine cstY rfl rfl rfl ?_
    refine zaa [] (zb2 0) rfl trivial rfl rfl (fun _ _ => trivial) (fun _ _ => ⟨rfl, rfl⟩) (fun _ _ => ?_)
    let x0 : Nat × SV := (57, ttA (vN 0))
    let f0a : World -> Prop := fun _ => True
    refine zag ({ s := x0 :: x5 :: x11 :: bS, m := m5a :: m11a :: bM, k := 8, f := f0a :: bF }) [2] rfl (by kernel_rfl) (by kernel_rfl) ⟨⟨rfl, rfl⟩, trivial⟩ ⟨?_, trivial⟩
    refine cstY rfl rfl rfl ?_
    refine zaa [] (zb2 0) rfl trivial rfl rfl (fun _ _ => trivial) (fun _ _ => ⟨rfl, rfl⟩) (fun _ _ => ?_)
    let x2 : Nat × SV := (59, ttA (vN 0))
    let f2a : World -> Prop := fun _ => True
    refine zag ({ s := x2 :: x0 :: x5 :: x11 :: bS, m := m5a :: m11a :: bM, k := 8, f := f2a :: f0a :: bF }) [3] rfl (by kernel_rfl) (by kernel_rfl) ⟨⟨rfl, rfl⟩, trivial⟩ ⟨?_, trivial⟩
    refine cstY rfl rfl rfl ?_
    let x3 : Nat × SV := (60, .one (.sl 8 0 2 2))
    let m3a : Nat × LB := (8, .cells 41 (((cN sA).cells ++ (vN 0).cells).map SA.v))
    refine zag ({ s := x3 :: x2 :: x0 :: x5 :: x11 :: bS, m := m3a :: m5a :: m11a :: bM, k := 9, f := f2a :: f0a :: bF }) [4] rfl (by kernel_rfl) (by kernel_rfl) ⟨⟨rfl, trivial⟩, trivial⟩ ⟨?_, trivial⟩
    refine cstY rfl rfl rfl ?_
    refine zad 8 (vs := (cN sA).cells ++ (vN 0).cells) rfl rfl (fun g => ?_)
    refine zaa [] (za1 (some ⟨g, 0, none⟩)) rfl trivial rfl rfl (fun w h => ⟨zbn h.1 (cNa w) (vN0 w), vN0 w⟩) (fun x _ => ?_) (fun x hx => ?_)
    ·obtain ⟨xvk, xvn, xvs, xvla, xvlc, xvls, xvaa, xvac, xvus⟩ := x
     exact ⟨rfl, rfl⟩
    have hf : x.tm = tO := hx
    obtain ⟨xfk, xfn, xfs, xfla, xflc, xfls, xfaa, xfac, xfus⟩ := x
    let Tf : TT := (TT.mk xfk xfn xfs xfla xflc xfls xfaa xfac xfus)
    let x4 : Nat × SV := (61, ttA Tf)
    let m4a : Nat × LB := (8, .dead)
    let f4a : World -> Prop := fun w => TTIn w Tf
    let f4b : World -> Prop := fun w => SlAt w (some ⟨g, 0, none⟩) ((cN sA).cells ++ (vN 0).cells)
    refine zag ({ s := x4 :: x3 :: x2 :: x0 :: x5 :: x11 :: bS, m := m4a :: m3a :: m5a :: m11a :: bM, k := 9, f := f4a :: f4b :: f2a :: f0a :: bF }) [6] rfl (by kernel_rfl) (by kernel_rfl) ⟨⟨rfl, trivial⟩, trivial⟩ ⟨?_, trivial⟩
    refine cstY rfl rfl rfl ?_
    refine zad 7 (vs := [.string sP, .string sQ]) rfl rfl (fun g2 => ?_)
    refine zaa [] (za2 Tf hf (some ⟨g2, 0, none⟩)) rfl trivial rfl rfl (fun w h => ⟨⟨h.2.2.2.2.2.1.1, ⟨h.1, fun h => (by cases h), Nat.le_refl _, by decide⟩⟩, h.2.1⟩) (fun q _ => ?_) (fun q hq => ?_)
    ·obtain ⟨⟨A1, c1⟩, dn, xvk, xvn, xvs, xvla, xvlc, xvls, xvaa, xvac, xvus⟩ := q
     exact ⟨rfl, rfl⟩
    obtain ⟨⟨A1, c1⟩, dn, xik, xin, xis, xila, xilc, xils, xiaa, xiac, xius⟩ := q
    obtain ⟨hq1, hi⟩ := hq
    have hi : (TT.mk xik xin xis xila xilc xils xiaa xiac xius).tm = cT sQ := hi
    obtain ⟨u0, u1, hdn, hp, hq⟩ := zbi dn hq1
    have hdn : dn = [(sP, u0), (sQ, u1)] := hdn
    subst hdn
    obtain ⟨xpk, xpn, xps, xpla, xplc, xpls, xpaa, xpac, xpus⟩ := u0
    obtain ⟨xqk, xqn, xqs, xqla, xqlc, xqls, xqaa, xqac, xqus⟩ := u1
    let Tp : TT := (TT.mk xpk xpn xps xpla xplc xpls xpaa xpac xpus)
    let Tq : TT := (TT.mk xqk xqn xqs xqla xqlc xqls xqaa xqac xqus)
    let Ti : TT := (TT.mk xik xin xis xila xilc xils xiaa xiac xius)
    let x6 : Nat × SV := (63, .tup [.one (.v (.slice A1 2 c1)), .agg (Ti.cells.map SA.v), .one (.v (.bool true))])
    let m6a : Nat × LB := (7, .dead)
    let f6a : World -> Prop := zax A1 [(sP, Tp), (sQ, Tq)] Ti
    let f6b : World -> Prop := fun w => SlAt w (some ⟨g2, 0, none⟩) [.string sP, .string sQ]
    let x7 : Nat × SV := (56, .tup [.one (.v (.slice A1 2 c1)), .agg (Ti.cells.map SA.v), .one (.v (.bool true))])
    refine zae 7 x7.2 _ (by kernel_rfl) ⟨⟨rfl, trivial⟩, trivial⟩ (by kernel_rfl) rfl rfl rfl ?_
    let x8 : Nat × SV := (64, .one (.v (.slice A1 2 c1)))
    refine zae 8 x8.2 _ (by kernel_rfl) ⟨⟨rfl, trivial⟩, trivial⟩ (by kernel_rfl) rfl rfl rfl ?_
    let x9 : Nat × SV := (65, .agg (Ti.cells.map SA.v))
    refine zae 9 x9.2 _ (by kernel_rfl) ⟨⟨rfl, trivial⟩, trivial⟩ (by kernel_rfl) rfl rfl rfl ?_
    let x10 : Nat × SV := (66, .one (.v (.bool true)))
    refine zae 10 x10.2 _ (by kernel_rfl) ⟨⟨rfl, trivial⟩, trivial⟩ (by kernel_rfl) rfl rfl rfl ?_
    let x12 : Nat × SV := (13, .one (.v (.slice A1 2 c1)))
    refine zae 12 x12.2 _ (by kernel_rfl) ⟨⟨rfl, trivial⟩, trivial⟩ (by kernel_rfl) rfl rfl rfl ?_
    refine zag ({ s := x12 :: x10 :: x9 :: x8 :: x7 :: x6 :: x4 :: x3 :: x2 :: x0 :: x5 :: x11 :: bS, m := m6a :: m4a :: m3a :: m5a :: m11a :: bM, k := 9, f := f6a :: f6b :: f4a :: f4b :: f2a :: f0a :: bF }) [13] rfl (by kernel_rfl) (by kernel_rfl) ⟨⟨rfl, trivial⟩, trivial⟩ ⟨?_, trivial⟩
    refine cstY rfl rfl rfl ?_
    let m13a : Nat × LB := (6, .cells 41 (Ti.cells.map SA.v))
    let x14 : Nat × SV := (15, .one (.v (.bool true)))
    refine zae 14 x14.2 _ (by kernel_rfl) ⟨⟨rfl, trivial⟩, trivial⟩ (by kernel_rfl) rfl rfl rfl ?_
    refine zau _ rfl (by kernel_rfl) ⟨⟨rfl, trivial⟩, trivial⟩ ?_
    exact ⟨((A1, c1), (Tp, Tq), Ti), ⟨hp, hq, hi⟩, (zab [(0, .blk 0), (1, .blk 1), (2, .blk 2), (3, .blk 3), (4, .blk 4), (5, .blk 5), (6, .blk 6)] rfl rfl rfl rfl (leB rfl) ⟨⟨_, rfl, rfl⟩, ⟨_, rfl, rfl⟩, ⟨_, rfl, rfl⟩, ⟨_, rfl, rfl⟩, ⟨_, rfl, rfl⟩, ⟨_, rfl, rfl⟩, ⟨_, rfl, rfl⟩, ⟨_, rfl, rfl⟩, ⟨_, rfl, rfl⟩, ⟨_, rfl, rfl⟩, ⟨_, rfl, rfl⟩, ⟨_, rfl, rfl⟩, ⟨_, rfl, rfl⟩, trivial⟩ ⟨⟨_, rfl, rfl⟩, ⟨_, rfl, rfl⟩, ⟨_, rfl, rfl⟩, ⟨_, rfl, rfl⟩, ⟨_, rfl, rfl⟩, ⟨_, rfl, rfl⟩, ⟨_, rfl, rfl⟩, trivial⟩ ⟨⟨amG.up _, fun w h => h.2.2.2.2.2.2.1⟩, ⟨zax.up _ _ _, fun w h => h.1⟩, trivial⟩)⟩
 obtain ⟨⟨A1, c1⟩, ⟨⟨xpk, xpn, xps, xpla, xplc, xpls, xpaa, xpac, xpus⟩, ⟨xqk, xqn, xqs, xqla, xqlc, xqls, xqaa, xqac, xqus⟩⟩, ⟨xik, xin, xis, xila, xilc, xils, xiaa, xiac, xius⟩⟩ := q
 obtain ⟨hp, hq, hi⟩ := hqq
 have hqs : xqs = sP := zv5 (TT.mk xqk xqn xqs xqla xqlc xqls xqaa xqac xqus) hq
 subst hqs
 let Tp : TT := (TT.mk xpk xpn xps xpla xplc xpls xpaa xpac xpus)
 let Tq : TT := (TT.mk xqk xqn sP xqla xqlc xqls xqaa xqac xqus)
 let Ti : TT := (TT.mk xik xin xis xila xilc xils xiaa xiac xius)
 have hp : Tp.tm = cT sA := hp
 have hq : Tq.tm = cT sP := hq
 have hi : Ti.tm = cT sQ := hi
 refine zah zac [12] _ _ _ ?_
 refine zal.ent (st' := { s := [(1, .one (.p 0 0)), (2, .one (.p 1 0)), (3, .one (.p 2 0)), (4, .one (.p 3 0)), (6, .one (.p 4 0)), (9, .one (.p 5 0)), (14, .one (.p 6 0)), (5, .one (.v (.bool true))), (7, .one (.v (.bool true))), (10, .one (.v (.bool true))), (12, .one (.v (.bool false))), (13, .one (.v (.slice A1 2 c1))), (15, .one (.v (.bool true)))], m := [(0, .cells 41 (Ta.cells.map SA.v)), (1, .cells 41 ((cN sA).cells.map SA.v)), (2, .cells 41 ((cN sB).cells.map SA.v)), (3, .cells 41 (Tb.cells.map SA.v)), (4, .cells 41 (Tc.cells.map SA.v)), (5, .cells 41 (Te.cells.map SA.v)), (6, .cells 41 (Ti.cells.map SA.v))], k := 7, f := [amG [Te, Td, Tc, Tb, Ta], zax A1 [(sP, Tp), (sQ, Tq)] Ti] }) (zab [(0, .blk 0), (1, .blk 1), (2, .blk 2), (3, .blk 3), (4, .blk 4), (5, .blk 5), (6, .blk 6)] rfl rfl rfl rfl (leB rfl) ⟨⟨_, rfl, rfl⟩, ⟨_, rfl, rfl⟩, ⟨_, rfl, rfl⟩, ⟨_, rfl, rfl⟩, ⟨_, rfl, rfl⟩, ⟨_, rfl, rfl⟩, ⟨_, rfl, rfl⟩, ⟨_, rfl, rfl⟩, ⟨_, rfl, rfl⟩, ⟨_, rfl, rfl⟩, ⟨_, rfl, rfl⟩, ⟨_, rfl, rfl⟩, ⟨_, rfl, rfl⟩, trivial⟩ ⟨⟨_, rfl, rfl⟩, ⟨_, rfl, rfl⟩, ⟨_, rfl, rfl⟩, ⟨_, rfl, rfl⟩, ⟨_, rfl, rfl⟩, ⟨_, rfl, rfl⟩, ⟨_, rfl, rfl⟩, trivial⟩ ⟨⟨amG.up _, fun w h => h.1⟩, ⟨zax.up _ _ _, fun w h => h.2.1⟩, trivial⟩) ?_
 refine zah zac [13] _ _ _ ?_
 refine zaa [] (zu8 Ti hi A1 c1 Tp Tq hp hq) rfl trivial rfl rfl (fun w h => ⟨⟨h.1.1, h.2.1.1.1, h.2.1.1.2⟩, h.2.1.2⟩) (fun x _ => ?_) (fun x hx => ?_)
 ·obtain ⟨xvk, xvn, xvs, xvla, xvlc, xvls, xvaa, xvac, xvus⟩ := x
  exact ⟨rfl, rfl⟩
 have hj : x.tm = tO := hx
 obtain ⟨xjk, xjn, xjs, xjla, xjlc, xjls, xjaa, xjac, xjus⟩ := x
 let Tj : TT := (TT.mk xjk xjn xjs xjla xjlc xjls xjaa xjac xjus)
 refine zal.ent (st' := { s := [(1, .one (.p 0 0)), (2, .one (.p 1 0)), (3, .one (.p 2 0)), (4, .one (.p 3 0)), (6, .one (.p 4 0)), (9, .one (.p 5 0)), (14, .one (.p 6 0)), (16, .one (.p 7 0)), (5, .one (.v (.bool true))), (7, .one (.v (.bool true))), (10, .one (.v (.bool true))), (12, .one (.v (.bool false))), (13, .one (.v (.slice A1 2 c1))), (15, .one (.v (.bool true))), (17, .one (.v (.bool true)))], m := [(0, .cells 41 (Ta.cells.map SA.v)), (1, .cells 41 ((cN sA).cells.map SA.v)), (2, .cells 41 ((cN sB).cells.map SA.v)), (3, .cells 41 (Tb.cells.map SA.v)), (4, .cells 41 (Tc.cells.map SA.v)), (5, .cells 41 (Te.cells.map SA.v)), (6, .cells 41 (Ti.cells.map SA.v)), (7, .cells 41 (Tj.cells.map SA.v))], k := 8, f := [amG [Tj, Te, Td, Tc, Tb, Ta], zax A1 [(sP, Tp), (sQ, Tq)] Ti] }) (zab [(0, .blk 0), (1, .blk 1), (2, .blk 2), (3, .blk 3), (4, .blk 4), (5, .blk 5), (6, .blk 6), (7, .blk 7)] rfl rfl rfl rfl (leB rfl) ⟨⟨_, rfl, rfl⟩, ⟨_, rfl, rfl⟩, ⟨_, rfl, rfl⟩, ⟨_, rfl, rfl⟩, ⟨_, rfl, rfl⟩, ⟨_, rfl, rfl⟩, ⟨_, rfl, rfl⟩, ⟨_, rfl, rfl⟩, ⟨_, rfl, rfl⟩, ⟨_, rfl, rfl⟩, ⟨_, rfl, rfl⟩, ⟨_, rfl, rfl⟩, ⟨_, rfl, rfl⟩, ⟨_, rfl, rfl⟩, ⟨_, rfl, rfl⟩, trivial⟩ ⟨⟨_, rfl, rfl⟩, ⟨_, rfl, rfl⟩, ⟨_, rfl, rfl⟩, ⟨_, rfl, rfl⟩, ⟨_, rfl, rfl⟩, ⟨_, rfl, rfl⟩, ⟨_, rfl, rfl⟩, ⟨_, rfl, rfl⟩, trivial⟩ ⟨⟨amG.up _, fun w h => h.2.1.cons h.1⟩, ⟨zax.up _ _ _, fun w h => h.2.2.1⟩, trivial⟩) ?_
 refine zah zac [14] _ _ _ ?_
 refine zaa [] (zyh Tb hb) rfl trivial rfl rfl (fun w h => ⟨h.1.1, h.1.get 4 rfl⟩) (fun x _ => ?_) (fun x hx => ?_)
 ·obtain ⟨xvk, xvn, xvs, xvla, xvlc, xvls, xvaa, xvac, xvus⟩ := x
  exact ⟨rfl, rfl⟩
 have hl : x.tm = tR := hx
 obtain ⟨xlk, xln, xls, xlla, xllc, xlls, xlaa, xlac, xlus⟩ := x
 let Tl : TT := (TT.mk xlk xln xls xlla xllc xlls xlaa xlac xlus)
 refine zal.ent (st' := { s := [(1, .one (.p 0 0)), (2, .one (.p 1 0)), (3, .one (.p 2 0)), (4, .one (.p 3 0)), (6, .one (.p 4 0)), (9, .one (.p 5 0)), (14, .one (.p 6 0)), (16, .one (.p 7 0)), (18, .one (.p 8 0)), (5, .one (.v (.bool true))), (7, .one (.v (.bool true))), (10, .one (.v (.bool true))), (12, .one (.v (.bool false))), (13, .one (.v (.slice A1 2 c1))), (15, .one (.v (.bool true))), (17, .one (.v (.bool true))), (19, .one (.v (.bool true)))], m := [(0, .cells 41 (Ta.cells.map SA.v)), (1, .cells 41 ((cN sA).cells.map SA.v)), (2, .cells 41 ((cN sB).cells.map SA.v)), (3, .cells 41 (Tb.cells.map SA.v)), (4, .cells 41 (Tc.cells.map SA.v)), (5, .cells 41 (Te.cells.map SA.v)), (6, .cells 41 (Ti.cells.map SA.v)), (7, .cells 41 (Tj.cells.map SA.v)), (8, .cells 41 (Tl.cells.map SA.v))], k := 9, f := [amG [Tl, Tj, Te, Td, Tc, Tb, Ta], zax A1 [(sP, Tp), (sQ, Tq)] Ti] }) (zab [(0, .blk 0), (1, .blk 1), (2, .blk 2), (3, .blk 3), (4, .blk 4), (5, .blk 5), (6, .blk 6), (7, .blk 7), (8, .blk 8)] rfl rfl rfl rfl (leB rfl) ⟨⟨_, rfl, rfl⟩, ⟨_, rfl, rfl⟩, ⟨_, rfl, rfl⟩, ⟨_, rfl, rfl⟩, ⟨_, rfl, rfl⟩, ⟨_, rfl, rfl⟩, ⟨_, rfl, rfl⟩, ⟨_, rfl, rfl⟩, ⟨_, rfl, rfl⟩, ⟨_, rfl, rfl⟩, ⟨_, rfl, rfl⟩, ⟨_, rfl, rfl⟩, ⟨_, rfl, rfl⟩, ⟨_, rfl, rfl⟩, ⟨_, rfl, rfl⟩, ⟨_, rfl, rfl⟩, ⟨_, rfl, rfl⟩, trivial⟩ ⟨⟨_, rfl, rfl⟩, ⟨_, rfl, rfl⟩, ⟨_, rfl, rfl⟩, ⟨_, rfl, rfl⟩, ⟨_, rfl, rfl⟩, ⟨_, rfl, rfl⟩, ⟨_, rfl, rfl⟩, ⟨_, rfl, rfl⟩, ⟨_, rfl, rfl⟩, trivial⟩ ⟨⟨amG.up _, fun w h => h.2.1.cons h.1⟩, ⟨zax.up _ _ _, fun w h => h.2.2.1⟩, trivial⟩) ?_
 refine zah zac [15] _ _ _ ?_
 refine zad 9 (vs := [.int .i64 1, .int .i64 1, .int .i64 (-1), .int .i64 (-1), .int .i64 (-1)]) rfl rfl (fun g => ?_)
 refine zad 10 (vs := [.int .i64 2, .int .i64 (-1), .int .i64 (-1), .int .i64 (-1), .int .i64 (-1)]) rfl rfl (fun g2 => ?_)
 refine zaa [] (zxs (some ⟨g, 0, none⟩) (some ⟨g2, 0, none⟩)) rfl trivial rfl rfl (fun w h => ⟨⟨h.2.2.1.1, zvq (l := ⟨2, -1, -1, -1, -1⟩) h.1⟩, zyz h.2.1⟩) (fun x _ => ?_) (fun x hx => ?_)
 ·obtain ⟨xvk, xvn, xvs, xvla, xvlc, xvls, xvaa, xvac, xvus⟩ := x
  exact ⟨rfl, rfl⟩
 have ho : x.tm = tW := hx
 obtain ⟨xok, xon, xos, xola, xolc, xols, xoaa, xoac, xous⟩ := x
 obtain ⟨ol, hols, hob⟩ := am_W (TT.mk xok xon xos xola xolc xols xoaa xoac xous) ho
 have hols : xols = [ol] := hols
 subst hols
 obtain ⟨lb, l0, l1, l2, l3⟩ := ol
 have hlb : lb = 3 := hob
 subst hlb
 refine zal.ent (st' := { s := [(1, .one (.p 0 0)), (2, .one (.p 1 0)), (3, .one (.p 2 0)), (4, .one (.p 3 0)), (6, .one (.p 4 0)), (9, .one (.p 5 0)), (14, .one (.p 6 0)), (16, .one (.p 7 0)), (18, .one (.p 8 0)), (20, .one (.p 9 0)), (5, .one (.v (.bool true))), (7, .one (.v (.bool true))), (10, .one (.v (.bool true))), (12, .one (.v (.bool false))), (13, .one (.v (.slice A1 2 c1))), (15, .one (.v (.bool true))), (17, .one (.v (.bool true))), (19, .one (.v (.bool true))), (21, .one (.v (.bool true)))], m := [(0, .cells 41 (Ta.cells.map SA.v)), (1, .cells 41 ((cN sA).cells.map SA.v)), (2, .cells 41 ((cN sB).cells.map SA.v)), (3, .cells 41 (Tb.cells.map SA.v)), (4, .cells 41 (Tc.cells.map SA.v)), (5, .cells 41 (Te.cells.map SA.v)), (6, .cells 41 (Ti.cells.map SA.v)), (7, .cells 41 (Tj.cells.map SA.v)), (8, .cells 41 (Tl.cells.map SA.v)), (9, .cells 41 ((TT.mk xok xon xos xola xolc [⟨3, l0, l1, l2, l3⟩] xoaa xoac xous).cells.map SA.v))], k := 10, f := [amG [(TT.mk xok xon xos xola xolc [⟨3, l0, l1, l2, l3⟩] xoaa xoac xous), Tl, Tj, Te, Td, Tc, Tb, Ta], zax A1 [(sP, Tp), (sQ, Tq)] Ti] }) (zab [(0, .blk 0), (1, .blk 1), (2, .blk 2), (3, .blk 3), (4, .blk 4), (5, .blk 5), (6, .blk 6), (7, .blk 7), (8, .blk 8), (9, .blk 11)] rfl rfl rfl rfl (leB rfl) ⟨⟨_, rfl, rfl⟩, ⟨_, rfl, rfl⟩, ⟨_, rfl, rfl⟩, ⟨_, rfl, rfl⟩, ⟨_, rfl, rfl⟩, ⟨_, rfl, rfl⟩, ⟨_, rfl, rfl⟩, ⟨_, rfl, rfl⟩, ⟨_, rfl, rfl⟩, ⟨_, rfl, rfl⟩, ⟨_, rfl, rfl⟩, ⟨_, rfl, rfl⟩, ⟨_, rfl, rfl⟩, ⟨_, rfl, rfl⟩, ⟨_, rfl, rfl⟩, ⟨_, rfl, rfl⟩, ⟨_, rfl, rfl⟩, ⟨_, rfl, rfl⟩, ⟨_, rfl, rfl⟩, trivial⟩ ⟨⟨_, rfl, rfl⟩, ⟨_, rfl, rfl⟩, ⟨_, rfl, rfl⟩, ⟨_, rfl, rfl⟩, ⟨_, rfl, rfl⟩, ⟨_, rfl, rfl⟩, ⟨_, rfl, rfl⟩, ⟨_, rfl, rfl⟩, ⟨_, rfl, rfl⟩, ⟨_, rfl, rfl⟩, trivial⟩ ⟨⟨amG.up _, fun w h => h.2.2.2.1.cons h.1⟩, ⟨zax.up _ _ _, fun w h => h.2.2.2.2.1⟩, trivial⟩) ?_
 refine zal.told (p := ∃ b off, xola = some ⟨b, off, none⟩) (fun w h => ?_) ?_
 ·obtain ⟨b, off, ha, _⟩ := (ztl (h.1.get 0 rfl)).2 Nat.one_pos
  exact ⟨b, off, ha⟩
 rintro ⟨ob0, oo0, rfl⟩
 refine zal.told (p := ∃ b, A1 = some b) (fun w h => ?_) ?_
 ·obtain ⟨a, ha, _⟩ := h.2.1.1.1 0 _ rfl
  exact ⟨a, ha⟩
 rintro ⟨ab0, rfl⟩
 refine zah zac [] _ _ _ ?_
 refine .inl ⟨79, [0, 1, 3, 7, 15, 31, 63, 127, 255, 511, 1023, 2047, 4095, 8191, 16383, 32767, 65535, 131071, 262143, 524287, 1048575, 2097151, 2097151, 2097151, 10485759, 31457279, 67108863, 134217727, 268435455, 536870911, 536870911, 2147483647, 4294967295, 8589934591, 17179869183, 34359738367, 68719476735, 137438953471, 274877906943, 549755813887, 1099511627775, 2199023255551, 4398046511103, 4398046511103, 17592186044415, 35184372088831, 70368744177663, 140737488355327, 281474976710655, 562949953421311, 1125899906842623, 2251799813685247, 4503599627370495, 9007199254740991, 18014398509481983, 36028797018963967, 36028797018963967, 36028797018963967, 108086391056891903, 540431955284459519, 1116892707587883007, 2305843009213693951, 4611686018427387903, 9223372036854775807, 18446744073709551615, 18446744073709551615, 18446744073709551615, 92233720368547758079, 276701161105643274239, 590295810358705651711, 1180591620717411303423, 2361183241434822606847, 4722366482869645213695, 9444732965739290427391, 18889465931478580854783, 37778931862957161709567, 75557863725914323419135, 151115727451828646838271, 302231454903657293676543, 604462909807314587353087], fun vs i => match i with
  | 25 => { pre := aG (ztg (vs 24)) 1 [cN sB] (cN sA), post := isT tY }
  | 26 => { pre := fun w => isT Tb.tm (vs 25) w /\ TTIn w Tb, R := fun u => u = .bool true, nf := fun _ => .bool true }
  | 31 => { pre := fun w => isT Tc.tm Ta.val w /\ TTIn w Tc, R := fun u => u = .bool true, nf := fun _ => .bool true }
  | 36 => { c := { n := 1 } }
  | 38 => { c := { v := .int .i64 3 } }
  | 39 => { b := some true }
  | 43 => { R := fun u => u = (cN sQ).val, nf := fun _ => (cN sQ).val }
  | 44 => { pre := fun w => isT Ti.tm (cN sQ).val w /\ TTIn w Ti, R := fun u => u = .bool true, nf := fun _ => .bool true }
  | 48 => { c := { n := 1 } }
  | 51 => { c := { v := .string sP } }
  | 52 => { b := some true }
  | 56 => { R := fun u => u = (vN 0).val, nf := fun _ => (vN 0).val }
  | 58 => { R := fun u => u = (vN 0).val, nf := fun _ => (vN 0).val }
  | 60 => { pre := aG (ztg (vs 59)) 2 [cN sA, vN 0] (vN 0), post := isT tO }
  | 61 => { pre := fun w => isT Tj.tm (vs 60) w /\ TTIn w Tj, R := fun u => u = .bool true, nf := fun _ => .bool true }
  | 65 => { R := fun u => u = (cN sC).val, nf := fun _ => (cN sC).val }
  | 68 => { pre := aG (ztg (vs 67)) 1 [cN sB] (cN sC), post := isT tR }
  | 69 => { pre := fun w => isT Tl.tm (vs 68) w /\ TTIn w Tl, R := fun u => u = .bool true, nf := fun _ => .bool true }
  | 74 => { c := { n := 0 } }
  | 76 => { c := { v := .int .i64 3 } }
  | 77 => { b := some true }
  | _ => {}, by kernel_rfl, rfl, by kernel_rfl, by kernel_rfl, by kernel_rfl, by decide, fun vals => ?_⟩
 refine ⟨fun _ => ⟨zub _, fun w h => ⟨zs5 h.1 (cNa w), cNa w⟩, fun _ h => (by first | exact h | rfl)⟩, ?_⟩
 refine ⟨fun _ => ⟨zi7 Tb _, fun w h => ⟨zsw hb h.1, (h.2.2.1.get 6 rfl)⟩, fun _ h => (by first | exact h | rfl)⟩, ?_⟩
 refine ⟨fun _ => ⟨zi7 Tc _, fun w h => ⟨⟨Ta, ha.trans hc.symm, rfl, (h.2.2.2.1.get 7 rfl)⟩, (h.2.2.2.1.get 5 rfl)⟩, fun _ h => (by first | exact h | rfl)⟩, ?_⟩
 refine ⟨fun _ => ⟨rfl, Nat.le_refl _, fun w h => rfl⟩, ?_⟩
 refine ⟨fun _ => fun w h => ?_, ?_⟩
 ·obtain ⟨⟨a, hq, h3⟩, _⟩ := (zpc (h.2.2.2.2.1.get 3 rfl)).arg (j := 1) rfl
  cases hq
  exact ⟨_, rfl, h3 1 _ rfl⟩
 refine ⟨fun _ => rfl, ?_⟩
 refine ⟨fun _ => ⟨zpi sQ, fun w h => trivial, fun _ h => (by first | exact h | rfl)⟩, ?_⟩
 refine ⟨fun _ => ⟨zi7 Ti _, fun w h => ⟨⟨cN sQ, (zg5 sQ).trans hi.symm, rfl, cNa w⟩, h.2.2.2.2.2.2.1.2⟩, fun _ h => (by first | exact h | rfl)⟩, ?_⟩
 refine ⟨fun _ => ⟨rfl, Nat.le_refl _, fun w h => rfl⟩, ?_⟩
 refine ⟨fun _ => fun w h => ?_, ?_⟩
 ·obtain ⟨a, hq, h3⟩ := h.2.2.2.2.2.2.2.1.1.1 9 _ rfl
  cases hq
  exact ⟨_, rfl, h3⟩
 refine ⟨fun _ => rfl, ?_⟩
 refine ⟨fun _ => ⟨zvm 0, fun w h => trivial, fun _ h => (by first | exact h | rfl)⟩, ?_⟩
 refine ⟨fun _ => ⟨zvm 0, fun w h => trivial, fun _ h => (by first | exact h | rfl)⟩, ?_⟩
 refine ⟨fun _ => ⟨zr6 _, fun w h => ⟨zwi h.1 (cNa w) (vN0 w), vN0 w⟩, fun _ h => (by first | exact h | rfl)⟩, ?_⟩
 refine ⟨fun _ => ⟨zi7 Tj _, fun w h => ⟨zsw hj h.1, (h.2.2.2.2.2.2.2.2.2.2.1.get 2 rfl)⟩, fun _ h => (by first | exact h | rfl)⟩, ?_⟩
 refine ⟨fun _ => ⟨zpi sC, fun w h => trivial, fun _ h => (by first | exact h | rfl)⟩, ?_⟩
 refine ⟨fun _ => ⟨ztw _, fun w h => ⟨zs5 h.1 (cNa w), cNa w⟩, fun _ h => (by first | exact h | rfl)⟩, ?_⟩
 refine ⟨fun _ => ⟨zi7 Tl _, fun w h => ⟨zsw hl h.1, (h.2.2.2.2.2.2.2.2.2.2.2.2.2.2.1.get 1 rfl)⟩, fun _ h => (by first | exact h | rfl)⟩, ?_⟩
 refine ⟨fun _ => ⟨rfl, Nat.one_pos, fun w h => rfl⟩, ?_⟩
 refine ⟨fun _ => fun w h => ?_, ?_⟩
 ·obtain ⟨b, off, hq, h3⟩ := (ztl (h.2.2.2.2.2.2.2.2.2.2.2.2.2.2.2.1.get 0 rfl)).2 Nat.one_pos
  cases hq
  exact ⟨_, rfl, (h3 0 _ rfl).1⟩
 refine ⟨fun _ => rfl, ?_⟩
 intro _
 exact ⟨_, rfl, Told.val rfl⟩
end Go.Proofs.YtmkpiekbpakigaaDoor
end
