/- What the claim needs of Ms1, Own6, in one text. -/
import Derived.Test.YtmkpiekbpakigaaDoorDomg
import Derived.Test.YtmkpiekbpakigaaDoorDomh
import Derived.Test.YtmkpiekbpakigaaDoorDomn
section
set_option linter.unusedVariables false
set_option linter.unusedSimpArgs false
namespace Go.Proofs.YtmkpiekbpakigaaDoor
open Go.RowKit Go.Proofs.Base Go.Proofs.Sym
def zT : TT := zbh 0 0 ⟨#[]⟩
theorem zyu (w : World) : TTIn w zT := zet w (I64.small _ (by decide) (by decide)) (I64.small _ (by decide) (by decide)) (by decide)
theorem zvu (n : Int) : tmB (vM n) := by
 unfold vM tmB
 refine ⟨by simp, by simp, ?_⟩
 show tmBs []
 unfold tmBs
 trivial
theorem zx6 : tmB zT.tm := by
 unfold zT zbh
 rw [zbz]
 unfold tmB
 refine ⟨by simp, by simp, ?_⟩
 show tmBs []
 unfold tmBs
 trivial
theorem zjz (b f : Int) : ∀ t d x, zcl b f t d = some (some x) -> tmB x
 | .mk k n s ls us, d, x, h => by
  rw [zmc] at h
  unfold zew zia at h
  split at h
  ·split at h
   ·cases h
    exact zvu _
   ·cases h
  ·cases h
theorem zqk {b f : Int} {t x : Tm} (hB : tmB t) (h : zez b f t = some x) : tmB x := by
 unfold zez zdq at h
 split at h
 ·cases h
 ·obtain ⟨_, _, l, h3⟩ := zel h
  exact zgo (zjz b f) t 0 3000 x l hB h3
theorem zu5 (gs : List Tm) (hg : ∀ g ∈ gs, tmB g) : ∀ t d x, putR gs t d = some (some x) -> tmB x
 | .mk k n s ls us, d, x, h => by
  rw [zse, zou] at h
  unfold zho at h
  split at h
  ·unfold zlo at h
   split at h
   ·rename_i a ha
    unfold upO at h
    split at h
    ·cases h
    ·rename_i y l hy
     cases h
     exact zgo (zjz d 0) a 0 3000 _ _ (hg a (List.mem_of_getElem? ha)) hy
   ·cases h
  ·unfold zew at h
   split at h
   ·cases h
    exact zvu _
   ·cases h
theorem zs6 {gs : List Tm} {t x : Tm} (hB : tmB t) (hg : ∀ g ∈ gs, tmB g) (h : ze2 gs t = some x) : tmB x := by
 unfold ze2 zdq at h
 split at h
 ·cases h
 ·obtain ⟨_, _, l, h3⟩ := zel h
  exact zgo (zu5 gs hg) t 0 3000 x l hB h3
def qOk (o : Option Tm) (q : Bool × TT) : Prop := match o with
 | none => q = (false, zT)
 | some u => q.1 = true /\ q.2.tm = u
def qRes (q : Bool × TT) : LRes := { v := .tup [.agg (q.2.cells.map SA.v), .one (.v (.bool q.1))], m := [], k := 0, F := fun w => TTIn w q.2 }
theorem zht {o : Option Tm} {x : TT} (h : qOk o (true, x)) : o = some x.tm := by
 cases o with
 | none => cases h
 | some u =>
  obtain ⟨_, h⟩ := h
  rw [<- h]
theorem zq6 {o : Option Tm} {q : Bool × TT} (h : qOk o q) (hB : ∀ u, o = some u -> tmB u) : tmB q.2.tm := by
 cases o with
 | none =>
  have h : q = (false, zT) := h
  rw [h]
  exact zx6
 | some u =>
  obtain ⟨_, h⟩ := h
  rw [h]
  exact hB u rfl
end Go.Proofs.YtmkpiekbpakigaaDoor
namespace Go.Proofs.Sym
open Go.RowKit Go.Proofs.Base Go.Proofs.YtmkpiekbpakigaaDoor
theorem zaz.q {P : Program} {f : FuncId} {args : List SV} {m : List (Nat × LB)} {b : Nat} {pre : World -> Prop} {o : Option Tm} (h : zaz P f args m b pre (ze1 (some o)) (zb6 (some o))) : zaz P f args m b pre (qOk o) qRes := by
 cases o with
 | none => exact zaz.told h h.up (fun w h => h) (fun _ => (false, zT)) (fun _ _ => rfl) (fun x _ => ⟨fun w => TTIn w zT, TTIn.upS _, fun w _ => zyu w, rfl⟩)
 | some u => exact zaz.told h h.up (fun w h => h) (fun x => (true, x)) (fun x hx => ⟨rfl, hx⟩) (fun x _ => ⟨fun w => TTIn w x, TTIn.upS _, fun w h => h, rfl⟩)
end Go.Proofs.Sym
namespace Go.Proofs.YtmkpiekbpakigaaDoor
open Go.RowKit Go.Proofs.Base Go.Proofs.Sym
theorem amG.snoc {ys : List TT} {y : TT} {w : World} (h : amG ys w) (hy : TTIn w y) : amG (ys ++ [y]) w := ⟨h.1, fun z hz => by
 rcases List.mem_append.1 hz with hz | hz
 ·exact h.2 z hz
 ·rw [List.mem_singleton.1 hz]
  exact hy⟩
set_option maxHeartbeats 8000000 in
theorem zme (t a b : TT) (ht : tmB t.tm) (ha : tmB a.tm) (hb : tmB b.tm) : PCall Tryd.prog 10 [t.val, a.val, b.val] (amG [t, a, b]) (fun r => r = .bool true) (fun _ _ => True) := by
 have hsame := fun x y h => zhe x y h
 obtain ⟨xtk, xtn, xts, xtla, xtlc, xtls, xtaa, xtac, xtus⟩ := t
 obtain ⟨xak, xan, xas, xala, xalc, xals, xaaa, xaac, xaus⟩ := a
 obtain ⟨xbk, xbn, xbs, xbla, xblc, xbls, xbaa, xbac, xbus⟩ := b
 refine za4 zac 68 [.tmp 6] Tryd.func10 rfl rfl (by kernel_rfl) rfl _ (leB rfl) (amG.up _) (fun _ => Up.true) ?_
 refine zah zac [3] _ _ _ ?_
 refine zai zsl (fun _ => rfl) (fun w h => h.1.1) ?_
 rintro r rfl
 refine zal.ent (st' := { s := [(3, .one (.p 0 0)), (4, .one (.p 1 0)), (5, .one (.p 2 0))], m := [(0, .cells 41 ((TT.mk xtk xtn xts xtla xtlc xtls xtaa xtac xtus).cells.map SA.v)), (1, .cells 41 ((TT.mk xak xan xas xala xalc xals xaaa xaac xaus).cells.map SA.v)), (2, .cells 41 ((TT.mk xbk xbn xbs xbla xblc xbls xbaa xbac xbus).cells.map SA.v))], k := 3, f := [amG [(TT.mk xtk xtn xts xtla xtlc xtls xtaa xtac xtus), (TT.mk xak xan xas xala xalc xals xaaa xaac xaus), (TT.mk xbk xbn xbs xbla xblc xbls xbaa xbac xbus)]] }) (zab [(0, .blk 0), (1, .blk 1), (2, .blk 2)] rfl rfl rfl rfl (leB rfl) ⟨⟨_, rfl, rfl⟩, ⟨_, rfl, rfl⟩, ⟨_, rfl, rfl⟩, trivial⟩ ⟨⟨_, rfl, rfl⟩, ⟨_, rfl, rfl⟩, ⟨_, rfl, rfl⟩, trivial⟩ ⟨⟨amG.up _, fun w h => h.2.1⟩, trivial⟩) ?_
 refine zah zac [5] _ _ _ ?_
 refine zad 3 (vs := (TT.mk xak xan xas xala xalc xals xaaa xaac xaus).cells ++ (TT.mk xbk xbn xbs xbla xblc xbls xbaa xbac xbus).cells) rfl rfl (fun g => ?_)
 refine zai (ztc (TT.mk xtk xtn xts xtla xtlc xtls xtaa xtac xtus) (some ⟨g, 0, none⟩) 2 [(TT.mk xak xan xas xala xalc xals xaaa xaac xaus), (TT.mk xbk xbn xbs xbla xblc xbls xbaa xbac xbus)]) (fun _ => rfl) (fun w h => ⟨h.2.1.get 0 rfl, zbn h.1 (h.2.1.get 1 rfl) (h.2.1.get 2 rfl)⟩) ?_
 rintro r ⟨gb, rfl, _⟩
 cases gb with
 | true => exact ⟨_, rfl, Told.val rfl⟩
 | false =>
 refine zal.ent (st' := { s := [(3, .one (.p 0 0)), (4, .one (.p 1 0)), (5, .one (.p 2 0))], m := [(0, .cells 41 ((TT.mk xtk xtn xts xtla xtlc xtls xtaa xtac xtus).cells.map SA.v)), (1, .cells 41 ((TT.mk xak xan xas xala xalc xals xaaa xaac xaus).cells.map SA.v)), (2, .cells 41 ((TT.mk xbk xbn xbs xbla xblc xbls xbaa xbac xbus).cells.map SA.v))], k := 3, f := [amG [(TT.mk xtk xtn xts xtla xtlc xtls xtaa xtac xtus), (TT.mk xak xan xas xala xalc xals xaaa xaac xaus), (TT.mk xbk xbn xbs xbla xblc xbls xbaa xbac xbus)]] }) (zab [(0, .blk 0), (1, .blk 1), (2, .blk 2)] rfl rfl rfl rfl (leB rfl) ⟨⟨_, rfl, rfl⟩, ⟨_, rfl, rfl⟩, ⟨_, rfl, rfl⟩, trivial⟩ ⟨⟨_, rfl, rfl⟩, ⟨_, rfl, rfl⟩, ⟨_, rfl, rfl⟩, trivial⟩ ⟨⟨amG.up _, fun w h => h.2.2.1⟩, trivial⟩) ?_
 refine zah zac [6] _ _ _ ?_
 refine zad 3 (vs := (TT.mk xak xan xas xala xalc xals xaaa xaac xaus).cells ++ (TT.mk xbk xbn xbs xbla xblc xbls xbaa xbac xbus).cells) rfl rfl (fun g => ?_)
 refine zaa [] ((zj1 (TT.mk xtk xtn xts xtla xtlc xtls xtaa xtac xtus) (some ⟨g, 0, none⟩) 2 [(TT.mk xak xan xas xala xalc xals xaaa xaac xaus), (TT.mk xbk xbn xbs xbla xblc xbls xbaa xbac xbus)] ht (by intro u hu; simp only [List.mem_cons, List.not_mem_nil, or_false] at hu; rcases hu with rfl | rfl <;> assumption)).q) rfl trivial rfl rfl (fun w h => ⟨⟨h.2.1.1, zbn h.1 (h.2.1.get 1 rfl) (h.2.1.get 2 rfl)⟩, h.2.1.get 0 rfl⟩) (fun q _ => ?_) (fun q hq => ?_)
 ·obtain ⟨q1, xvk, xvn, xvs, xvla, xvlc, xvls, xvaa, xvac, xvus⟩ := q
  exact ⟨rfl, rfl⟩
 obtain ⟨b1, xck, xcn, xcs, xcla, xclc, xcls, xcaa, xcac, xcus⟩ := q
 have h1 : qOk _ (b1, (TT.mk xck xcn xcs xcla xclc xcls xcaa xcac xcus)) := hq
 refine zal.ent (st' := { s := [(3, .one (.p 0 0)), (4, .one (.p 1 0)), (5, .one (.p 2 0)), (7, .one (.p 3 0)), (8, .one (.v (.bool b1)))], m := [(0, .cells 41 ((TT.mk xtk xtn xts xtla xtlc xtls xtaa xtac xtus).cells.map SA.v)), (1, .cells 41 ((TT.mk xak xan xas xala xalc xals xaaa xaac xaus).cells.map SA.v)), (2, .cells 41 ((TT.mk xbk xbn xbs xbla xblc xbls xbaa xbac xbus).cells.map SA.v)), (3, .cells 41 ((TT.mk xck xcn xcs xcla xclc xcls xcaa xcac xcus).cells.map SA.v))], k := 4, f := [amG [(TT.mk xtk xtn xts xtla xtlc xtls xtaa xtac xtus), (TT.mk xak xan xas xala xalc xals xaaa xaac xaus), (TT.mk xbk xbn xbs xbla xblc xbls xbaa xbac xbus), (TT.mk xck xcn xcs xcla xclc xcls xcaa xcac xcus)]] }) (zab [(0, .blk 0), (1, .blk 1), (2, .blk 2), (3, .blk 4)] rfl rfl rfl rfl (leB rfl) ⟨⟨_, rfl, rfl⟩, ⟨_, rfl, rfl⟩, ⟨_, rfl, rfl⟩, ⟨_, rfl, rfl⟩, ⟨_, rfl, rfl⟩, trivial⟩ ⟨⟨_, rfl, rfl⟩, ⟨_, rfl, rfl⟩, ⟨_, rfl, rfl⟩, ⟨_, rfl, rfl⟩, trivial⟩ ⟨⟨amG.up _, fun w h => h.2.2.1.snoc h.1⟩, trivial⟩) ?_
 refine zah zac [7] _ _ _ ?_
 refine zaa [] ((zkt (TT.mk xbk xbn xbs xbla xblc xbls xbaa xbac xbus) 1 0 hb).q) rfl trivial rfl rfl (fun w h => ⟨h.1.1, h.1.get 2 rfl⟩) (fun q _ => ?_) (fun q hq => ?_)
 ·obtain ⟨q1, xvk, xvn, xvs, xvla, xvlc, xvls, xvaa, xvac, xvus⟩ := q
  exact ⟨rfl, rfl⟩
 obtain ⟨b2, xdk, xdn, xds, xdla, xdlc, xdls, xdaa, xdac, xdus⟩ := q
 have h2 : qOk _ (b2, (TT.mk xdk xdn xds xdla xdlc xdls xdaa xdac xdus)) := hq
 refine zal.ent (st' := { s := [(3, .one (.p 0 0)), (4, .one (.p 1 0)), (5, .one (.p 2 0)), (7, .one (.p 3 0)), (9, .one (.p 4 0)), (8, .one (.v (.bool b1))), (10, .one (.v (.bool b2)))], m := [(0, .cells 41 ((TT.mk xtk xtn xts xtla xtlc xtls xtaa xtac xtus).cells.map SA.v)), (1, .cells 41 ((TT.mk xak xan xas xala xalc xals xaaa xaac xaus).cells.map SA.v)), (2, .cells 41 ((TT.mk xbk xbn xbs xbla xblc xbls xbaa xbac xbus).cells.map SA.v)), (3, .cells 41 ((TT.mk xck xcn xcs xcla xclc xcls xcaa xcac xcus).cells.map SA.v)), (4, .cells 41 ((TT.mk xdk xdn xds xdla xdlc xdls xdaa xdac xdus).cells.map SA.v))], k := 5, f := [amG [(TT.mk xtk xtn xts xtla xtlc xtls xtaa xtac xtus), (TT.mk xak xan xas xala xalc xals xaaa xaac xaus), (TT.mk xbk xbn xbs xbla xblc xbls xbaa xbac xbus), (TT.mk xck xcn xcs xcla xclc xcls xcaa xcac xcus), (TT.mk xdk xdn xds xdla xdlc xdls xdaa xdac xdus)]] }) (zab [(0, .blk 0), (1, .blk 1), (2, .blk 2), (3, .blk 3), (4, .blk 4)] rfl rfl rfl rfl (leB rfl) ⟨⟨_, rfl, rfl⟩, ⟨_, rfl, rfl⟩, ⟨_, rfl, rfl⟩, ⟨_, rfl, rfl⟩, ⟨_, rfl, rfl⟩, ⟨_, rfl, rfl⟩, ⟨_, rfl, rfl⟩, trivial⟩ ⟨⟨_, rfl, rfl⟩, ⟨_, rfl, rfl⟩, ⟨_, rfl, rfl⟩, ⟨_, rfl, rfl⟩, ⟨_, rfl, rfl⟩, trivial⟩ ⟨⟨amG.up _, fun w h => h.2.1.snoc h.1⟩, trivial⟩) ?_
 have hd : tmB (TT.mk xdk xdn xds xdla xdlc xdls xdaa xdac xdus).tm := zq6 h2 (fun u hu => zqk hb hu)
 refine zah zac [8] _ _ _ ?_
 refine zad 5 (vs := (TT.mk xdk xdn xds xdla xdlc xdls xdaa xdac xdus).cells) rfl rfl (fun g => ?_)
 refine zaa [] ((zj1 (TT.mk xtk xtn xts xtla xtlc xtls xtaa xtac xtus) (some ⟨g, 0, none⟩) 1 [(TT.mk xdk xdn xds xdla xdlc xdls xdaa xdac xdus)] ht (by intro u hu; rw [List.mem_singleton.1 hu]; exact hd)).q) rfl trivial rfl rfl (fun w h => ⟨⟨h.2.1.1, zfc h.1 (h.2.1.get 4 rfl)⟩, h.2.1.get 0 rfl⟩) (fun q _ => ?_) (fun q hq => ?_)
 ·obtain ⟨q1, xvk, xvn, xvs, xvla, xvlc, xvls, xvaa, xvac, xvus⟩ := q
  exact ⟨rfl, rfl⟩
 obtain ⟨b3, xfk, xfn, xfs, xfla, xflc, xfls, xfaa, xfac, xfus⟩ := q
 have h3 : qOk _ (b3, (TT.mk xfk xfn xfs xfla xflc xfls xfaa xfac xfus)) := hq
 refine zal.ent (st' := { s := [(3, .one (.p 0 0)), (4, .one (.p 1 0)), (5, .one (.p 2 0)), (7, .one (.p 3 0)), (9, .one (.p 4 0)), (11, .one (.p 5 0)), (8, .one (.v (.bool b1))), (10, .one (.v (.bool b2))), (12, .one (.v (.bool b3)))], m := [(0, .cells 41 ((TT.mk xtk xtn xts xtla xtlc xtls xtaa xtac xtus).cells.map SA.v)), (1, .cells 41 ((TT.mk xak xan xas xala xalc xals xaaa xaac xaus).cells.map SA.v)), (2, .cells 41 ((TT.mk xbk xbn xbs xbla xblc xbls xbaa xbac xbus).cells.map SA.v)), (3, .cells 41 ((TT.mk xck xcn xcs xcla xclc xcls xcaa xcac xcus).cells.map SA.v)), (4, .cells 41 ((TT.mk xdk xdn xds xdla xdlc xdls xdaa xdac xdus).cells.map SA.v)), (5, .cells 41 ((TT.mk xfk xfn xfs xfla xflc xfls xfaa xfac xfus).cells.map SA.v))], k := 6, f := [amG [(TT.mk xtk xtn xts xtla xtlc xtls xtaa xtac xtus), (TT.mk xak xan xas xala xalc xals xaaa xaac xaus), (TT.mk xbk xbn xbs xbla xblc xbls xbaa xbac xbus), (TT.mk xck xcn xcs xcla xclc xcls xcaa xcac xcus), (TT.mk xdk xdn xds xdla xdlc xdls xdaa xdac xdus), (TT.mk xfk xfn xfs xfla xflc xfls xfaa xfac xfus)]] }) (zab [(0, .blk 0), (1, .blk 1), (2, .blk 2), (3, .blk 3), (4, .blk 4), (5, .blk 6)] rfl rfl rfl rfl (leB rfl) ⟨⟨_, rfl, rfl⟩, ⟨_, rfl, rfl⟩, ⟨_, rfl, rfl⟩, ⟨_, rfl, rfl⟩, ⟨_, rfl, rfl⟩, ⟨_, rfl, rfl⟩, ⟨_, rfl, rfl⟩, ⟨_, rfl, rfl⟩, ⟨_, rfl, rfl⟩, trivial⟩ ⟨⟨_, rfl, rfl⟩, ⟨_, rfl, rfl⟩, ⟨_, rfl, rfl⟩, ⟨_, rfl, rfl⟩, ⟨_, rfl, rfl⟩, ⟨_, rfl, rfl⟩, trivial⟩ ⟨⟨amG.up _, fun w h => h.2.2.1.snoc h.1⟩, trivial⟩) ?_
 have hf : tmB (TT.mk xfk xfn xfs xfla xflc xfls xfaa xfac xfus).tm := zq6 h3 (fun u hu => zs6 ht (by intro v hv; simp only [List.map_cons, List.map_nil] at hv; rw [List.mem_singleton.1 hv]; exact hd) hu)
 refine zah zac [9] _ _ _ ?_
 refine zad 6 (vs := (TT.mk xak xan xas xala xalc xals xaaa xaac xaus).cells) rfl rfl (fun g => ?_)
 refine zaa [] ((zj1 (TT.mk xfk xfn xfs xfla xflc xfls xfaa xfac xfus) (some ⟨g, 0, none⟩) 1 [(TT.mk xak xan xas xala xalc xals xaaa xaac xaus)] hf (by intro u hu; rw [List.mem_singleton.1 hu]; exact ha)).q) rfl trivial rfl rfl (fun w h => ⟨⟨h.2.1.1, zfc h.1 (h.2.1.get 1 rfl)⟩, h.2.1.get 5 rfl⟩) (fun q _ => ?_) (fun q hq => ?_)
 ·obtain ⟨q1, xvk, xvn, xvs, xvla, xvlc, xvls, xvaa, xvac, xvus⟩ := q
  exact ⟨rfl, rfl⟩
 obtain ⟨b4, xgk, xgn, xgs, xgla, xglc, xgls, xgaa, xgac, xgus⟩ := q
 have h4 : qOk _ (b4, (TT.mk xgk xgn xgs xgla xglc xgls xgaa xgac xgus)) := hq
 refine zal.ent (st' := { s := [(3, .one (.p 0 0)), (4, .one (.p 1 0)), (5, .one (.p 2 0)), (7, .one (.p 3 0)), (9, .one (.p 4 0)), (11, .one (.p 5 0)), (13, .one (.p 6 0)), (8, .one (.v (.bool b1))), (10, .one (.v (.bool b2))), (12, .one (.v (.bool b3))), (14, .one (.v (.bool b4)))], m := [(0, .cells 41 ((TT.mk xtk xtn xts xtla xtlc xtls xtaa xtac xtus).cells.map SA.v)), (1, .cells 41 ((TT.mk xak xan xas xala xalc xals xaaa xaac xaus).cells.map SA.v)), (2, .cells 41 ((TT.mk xbk xbn xbs xbla xblc xbls xbaa xbac xbus).cells.map SA.v)), (3, .cells 41 ((TT.mk xck xcn xcs xcla xclc xcls xcaa xcac xcus).cells.map SA.v)), (4, .cells 41 ((TT.mk xdk xdn xds xdla xdlc xdls xdaa xdac xdus).cells.map SA.v)), (5, .cells 41 ((TT.mk xfk xfn xfs xfla xflc xfls xfaa xfac xfus).cells.map SA.v)), (6, .cells 41 ((TT.mk xgk xgn xgs xgla xglc xgls xgaa xgac xgus).cells.map SA.v))], k := 7, f := [amG [(TT.mk xtk xtn xts xtla xtlc xtls xtaa xtac xtus), (TT.mk xak xan xas xala xalc xals xaaa xaac xaus), (TT.mk xbk xbn xbs xbla xblc xbls xbaa xbac xbus), (TT.mk xck xcn xcs xcla xclc xcls xcaa xcac xcus), (TT.mk xdk xdn xds xdla xdlc xdls xdaa xdac xdus), (TT.mk xfk xfn xfs xfla xflc xfls xfaa xfac xfus), (TT.mk xgk xgn xgs xgla xglc xgls xgaa xgac xgus)]] }) (zab [(0, .blk 0), (1, .blk 1), (2, .blk 2), (3, .blk 3), (4, .blk 4), (5, .blk 5), (6, .blk 7)] rfl rfl rfl rfl (leB rfl) ⟨⟨_, rfl, rfl⟩, ⟨_, rfl, rfl⟩, ⟨_, rfl, rfl⟩, ⟨_, rfl, rfl⟩, ⟨_, rfl, rfl⟩, ⟨_, rfl, rfl⟩, ⟨_, rfl, rfl⟩, ⟨_, rfl, rfl⟩, ⟨_, rfl, rfl⟩, ⟨_, rfl, rfl⟩, ⟨_, rfl, rfl⟩, trivial⟩ ⟨⟨_, rfl, rfl⟩, ⟨_, rfl, rfl⟩, ⟨_, rfl, rfl⟩, ⟨_, rfl, rfl⟩, ⟨_, rfl, rfl⟩, ⟨_, rfl, rfl⟩, ⟨_, rfl, rfl⟩, trivial⟩ ⟨⟨amG.up _, fun w h => h.2.2.1.snoc h.1⟩, trivial⟩) ?_
 have hlaw : b1 = true -> b2 = true -> b3 = true -> b4 = true -> (TT.mk xck xcn xcs xcla xclc xcls xcaa xcac xcus).tm = (TT.mk xgk xgn xgs xgla xglc xgls xgaa xgac xgus).tm := by
  rintro rfl rfl rfl rfl
  have e1 := zht h1
  have e2 := zht h2
  have e3 := zht h3
  have e4 := zht h4
  exact (zti (a := (TT.mk xak xan xas xala xalc xals xaaa xaac xaus).tm) (b := (TT.mk xbk xbn xbs xbla xblc xbls xbaa xbac xbus).tm) (t := (TT.mk xtk xtn xts xtla xtlc xtls xtaa xtac xtus).tm) e1 e2 e3 e4).symm
 clear h1 h2 h3 h4
 refine zah zac [] _ _ _ ?_
 cases b1 with
 | false => exact ⟨_, rfl, Told.val rfl⟩
 | true =>
 cases b2 with
 | false => exact ⟨_, rfl, Told.val rfl⟩
 | true =>
 cases b3 with
 | false => exact ⟨_, rfl, Told.val rfl⟩
 | true =>
 cases b4 with
 | false => exact ⟨_, rfl, Told.val rfl⟩
 | true =>
 have hcg := hlaw rfl rfl rfl rfl
 refine zai (zhe (TT.mk xck xcn xcs xcla xclc xcls xcaa xcac xcus) (TT.mk xgk xgn xgs xgla xglc xgls xgaa xgac xgus) hcg) (fun _ => rfl) (fun w h => ⟨h.1.get 3 rfl, h.1.get 6 rfl⟩) ?_
 rintro r rfl
 exact ⟨_, rfl, Told.val rfl⟩
end Go.Proofs.YtmkpiekbpakigaaDoor
end
section
set_option linter.unusedVariables false
set_option linter.unusedSimpArgs false
namespace Go.Proofs.YtmkpiekbpakigaaDoor
open Go.ChangeShapes Go.WideShapes Go.ChangeAt Go.RowKit Go.Proofs.Base Go.Proofs.Sym
mutual
theorem zkj : ∀ t : TT, TTB t -> tmB t.tm
 | .mk k n s la lc ls aa ac us, h => by
  unfold TTB at h
  rw [zbz]
  unfold tmB
  refine ⟨h.1, ?_, ?_⟩
  ·rw [List.length_map]
   exact h.2.1
  ·exact zoi us h.2.2
theorem zoi : ∀ us : List TT, TTBs us -> tmBs (us.map TT.tm)
 | [], _ => by
  show tmBs []
  unfold tmBs
  trivial
 | u :: r, h => by
  unfold TTBs at h
  show tmBs (u.tm :: r.map TT.tm)
  unfold tmBs
  exact ⟨zkj u h.1, zoi r h.2⟩
end
section
variable {H : Type} {enc : TypeId × Value -> H} {w : World} {base : Nat} {sp : Nat -> Bool} {held : Bool}
set_option maxRecDepth 100000 in
theorem zfh {r : Reach} {b0 : Nat} {v : Value} {d : DataW H} {ps : List MemPlace} (hval : Value.okWide Tryd.prog w r b0 41 v) (h : DataW.Trod enc Tryd.prog w base sp held 41 v d ps) (hw : WtOk 41 d) : ∃ t : TT, v = t.val /\ TTIn w t /\ TTB t := by
 obtain ⟨cs, rfl, hsz⟩ := okWide_struct Tryd.underlying41 hval
 obtain ⟨fuel, hf⟩ := h
 obtain ⟨t, hc, ht, hb⟩ := zxe _ _ _ hf hw
 obtain ⟨cs⟩ := cs
 simp only [Value.cells] at hc
 exact ⟨t, by rw [show cs = t.cells from hc]; rfl, ht, hb⟩
end
theorem zv9 {f : FuncId} {args : List Value} {pre : World -> Prop} (h : PCall Tryd.prog f args pre (fun r => r = .bool true) (fun _ _ => True)) (hu : Up pre) (w : World) (hp : pre w) : Calls Tryd.prog f args.toArray w fun e w' => e = .returned (.bool true) /\ Below w.heap.size w w' :=
 (h.run w (fun _ => False) (fun _ h => h.elim) (hu _ _ (fun g o hg ho => by rw [zcx, hg]; simp) hp)).mono fun en w' ⟨r, h1, h2, _, h4⟩ => ⟨by rw [h1, h2], h4⟩
theorem zjf (t a b : TT) (ht : TTB t) (ha : TTB a) (hb : TTB b) (w : World) (hp : amG [t, a, b] w) : Calls Tryd.prog 10 #[t.val, a.val, b.val] w fun e w' => e = .returned (.bool true) /\ Below w.heap.size w w' :=
 zv9 (zme t a b (zkj t ht) (zkj a ha) (zkj b hb)) (amG.up _) w hp
end Go.Proofs.YtmkpiekbpakigaaDoor
end
