/- What the claim needs of Ml2, Ml3, Ml4, Own7, in one text. -/
import Derived.Test.YtmkpiekbpakigaaDoorDomb
import Derived.Test.YtmkpiekbpakigaaDoorDomn
section
set_option linter.unusedVariables false
set_option linter.unusedSimpArgs false
namespace Go.Proofs.YtmkpiekbpakigaaDoor
open Go.RowKit Go.Proofs.Base Go.Proofs.Sym
def zbt (l : Lv) : Prop := l.p0 = -1 /\ l.p1 = -1 /\ l.p2 = -1 /\ l.p3 = -1
theorem zd8 (n : Int) : zbt (Lv.num n) := ⟨rfl, rfl, rfl, rfl⟩
theorem zuq {b : Lv} (h : zbt b) (n : Int) (h2 : (b.up n).2 = true) : zbt (b.up n).1 := by
 unfold Lv.up at h2 ⊢
 split
 ·obtain ⟨h0, h1, h3, h4⟩ := h
  exact ⟨(zfa h0).trans h0, (zfa h1).trans h1, (zfa h3).trans h3, (zfa h4).trans h4⟩
 ·rename_i hc
  rw [if_neg hc] at h2
  cases h2
theorem zos {a b : Lv} (ha : zbt a) (hb : zbt b) : zbt (a.max2 b) := by
 obtain ⟨h0, h1, h2, h3⟩ := ha
 obtain ⟨g0, g1, g2, g3⟩ := hb
 refine ⟨?_, ?_, ?_, ?_⟩ <;> simp [Lv.max2, mxi, *]
theorem zns {ps : List Lv} (h : ∀ p ∈ ps, zbt p) : zbt (Lv.maxl ps) := by
 unfold Lv.maxl
 split
 ·have : ∀ (ps : List Lv) (a : Lv), zbt a -> (∀ p ∈ ps, zbt p) -> zbt (ps.foldl Lv.max2 a) := by
   intro ps
   induction ps with
   | nil => intro a ha _; exact ha
   | cons x r ih => intro a ha hp; exact ih _ (zos ha (hp x List.mem_cons_self)) (fun p hp2 => hp p (List.mem_cons_of_mem _ hp2))
  exact this ps _ (zd8 0) h
 ·exact zd8 _
theorem zul {l : Lv} {bs : List Lv} (hb : ∀ b ∈ bs, zbt b) : ∀ (k : Nat) (ps : List Lv), l.instGo bs k = some ps -> ∀ p ∈ ps, zbt p := by
 intro k
 induction k with
 | zero =>
  intro ps h p hp
  rw [Lv.instGo] at h
  cases h
  rw [List.mem_singleton.1 hp]
  exact zd8 _
 | succ k ih =>
  intro ps h p hp
  rw [Lv.instGo] at h
  split at h
  ·rename_i qs b h1 h2
   have hcb := hb b (List.mem_of_getElem? h2)
   split at h
   ·cases h
   ·split at h
    ·cases h
     exact ih _ h1 p hp
    ·split at h
     ·rename_i hu
      cases h
      rcases List.mem_append.1 hp with hp | hp
      ·exact ih _ h1 p hp
      ·rw [List.mem_singleton.1 hp]
       exact zuq hcb _ hu
     ·cases h
  ·cases h
theorem zoo {l : Lv} {bs : List Lv} (hb : ∀ b ∈ bs, zbt b) (h : (l.inst bs).2 = true) : zbt (l.inst bs).1 := by
 unfold Lv.inst at h ⊢
 split
 ·rename_i hc
  rw [if_pos hc] at h
  unfold Lv.instFin at h ⊢
  split
  ·rename_i ps hp
   exact zns (zul hb _ _ hp)
  ·rename_i hp
   rw [hp] at h
   cases h
 ·rename_i hc
  rw [if_neg hc] at h
  cases h
theorem zkt {bs : List Lv} (hb : ∀ b ∈ bs, zbt b) : ∀ (ls xs : List Lv), zbq bs ls = some xs -> xs.length = ls.length /\ ∀ x ∈ xs, zbt x
 | [], xs, h => by
  rw [zbq] at h
  cases h
  exact ⟨rfl, fun x hx => by cases hx⟩
 | l :: r, xs, h => by
  rw [zbq] at h
  cases h2 : (l.inst bs).2 with
  | false => rw [h2] at h; cases hr : zbq bs r <;> rw [hr] at h <;> cases h
  | true =>
   rw [h2] at h
   cases hr : zbq bs r with
   | none => rw [hr] at h; cases h
   | some ys =>
    rw [hr] at h
    cases h
    obtain ⟨g1, g2⟩ := zkt hb r ys hr
    refine ⟨by simp [g1], fun x hx => ?_⟩
    rcases List.mem_cons.1 hx with rfl | hx
    ·exact zoo hb h2
    ·exact g2 x hx
mutual
def zhn : Tm -> Prop
 | .mk _ _ _ ls us => (∀ l ∈ ls, zbt l) /\ zdz us
def zdz : List Tm -> Prop
 | [] => True
 | u :: r => zhn u /\ zdz r
end
theorem zhu {k n : Int} {s : ByteArray} {ls : List Lv} {len p v d : Int} (h : zdg k n s ls len p v d = true) : len = zfp k /\ zbm k ls p = true := by
 unfold zdg at h
 simp only [Bool.and_eq_true, decide_eq_true_eq] at h
 exact ⟨h.2.2.2.1, h.2.2.2.2.2⟩
theorem zgd {k : Int} {ls : List Lv} {p : Int} (h : zbm k ls p = true) : (ls.length : Int) <= zge k /\ ∀ l ∈ ls, l.right = true /\ l.width <= p := by
 unfold zbm at h
 simp only [Bool.and_eq_true, Bool.not_eq_true', Bool.or_eq_false_iff, decide_eq_false_iff_not] at h
 refine ⟨by omega, fun l hl => ?_⟩
 have := List.any_eq_false.1 h.2 l hl
 unfold zbj at this
 simp only [Bool.or_eq_true, Bool.not_eq_true', decide_eq_true_eq, not_or] at this
 exact ⟨by simpa using this.1, by omega⟩
theorem zx8 {k : Int} (h : 0 < zge k) : zfp k = 0 := by
 unfold zge at h
 unfold zfp
 split at h
 ·rename_i hk
  subst hk
  rfl
 ·split at h
  ·rename_i hk
   subst hk
   rfl
  ·cases h
mutual
theorem zm9 : ∀ (t : Tm) (v d : Int), allT 4 v d t = true -> zhn t -> allT 0 v d t = true
 | .mk k n s ls us, v, d, h, hc => by
  unfold allT at h ⊢
  unfold zhn at hc
  rw [Bool.and_eq_true] at h ⊢
  obtain ⟨h1, h2⟩ := h
  refine ⟨?_, zkc k us v d 0 h2 hc.2⟩
  obtain ⟨_, hl⟩ := zhu h1
  have hl2 := zgd hl
  have e1 : zbm k ls 0 = zbm k ls 4 := by
   rw [hl]
   unfold zbm at hl ⊢
   rw [Bool.and_eq_true] at hl ⊢
   refine ⟨hl.1, ?_⟩
   rw [Bool.not_eq_true', List.any_eq_false]
   intro l hm
   obtain ⟨g0, g1, g2, g3⟩ := hc.1 l hm
   have : zbj 0 l = false := by
    unfold zbj Lv.width
    rw [(hl2.2 l hm).1, g0, g1, g2, g3]
    decide
   rw [this]
   decide
  unfold zdg at h1 ⊢
  rw [e1]
  exact h1
theorem zkc (k : Int) : ∀ (us : List Tm) (v d : Int) (i : Nat), zcd k 4 v d i us = true -> zdz us -> zcd k 0 v d i us = true
 | [], v, d, i, h, hc => by
  unfold zcd
  rfl
 | u :: r, v, d, i, h, hc => by
  unfold zcd at h ⊢
  unfold zdz at hc
  rw [Bool.and_eq_true] at h ⊢
  exact ⟨zm9 u _ _ h.1 hc.1, zkc k r v d (i + 1) h.2 hc.2⟩
end
mutual
theorem zjf {bs : List Lv} (hb : ∀ b ∈ bs, zbt b) : ∀ (t : Tm) (d l : Int) (x : Tm) (l' v e : Int), zc1 (lvlR bs) t d l = some (x, l') -> allT 4 v e x = true -> zhn x
 | .mk k n s ls us, d, l, x, l', v, e, h, ha => by
  rw [zc1] at h
  have hR : lvlR bs (.mk k n s ls us) d = lvlT k n s us (decide ((ls.length : Int) = 0)) (zbq bs ls) := rfl
  rw [hR] at h
  by_cases hl : (ls.length : Int) = 0
  ·rw [decide_eq_true hl] at h
   obtain ⟨xs, l2, hq, rfl⟩ := zof (show zh8 _ _ _ _ _ _ = some (x, l') from h)
   unfold allT at ha
   rw [Bool.and_eq_true] at ha
   unfold zhn
   have : ls = [] := List.length_eq_zero_iff.1 (by omega)
   subst this
   exact ⟨fun l hl => (by cases hl), zh7 hb k us 0 d _ xs _ v e 0 hq ha.2⟩
  ·rw [decide_eq_false hl] at h
   cases hi : zbq bs ls with
   | none => rw [hi] at h; cases h
   | some xs =>
    rw [hi] at h
    have h : zkp (.mk k n s xs us) _ _ = some (x, l') := h
    unfold zkp at h
    split at h
    ·cases h
     obtain ⟨g1, g2⟩ := zkt hb ls xs hi
     unfold allT at ha
     rw [Bool.and_eq_true] at ha
     obtain ⟨n1, n2⟩ := zhu ha.1
     have n3 := (zgd n2).1
     have n4 := zx8 (k := k) (by omega)
     have : us = [] := List.length_eq_zero_iff.1 (by omega)
     subst this
     unfold zhn zdz
     exact ⟨g2, trivial⟩
    ·cases h
theorem zh7 {bs : List Lv} (hb : ∀ b ∈ bs, zbt b) (k : Int) : ∀ (us : List Tm) (j d l : Int) (xs : List Tm) (l' v e : Int) (i : Nat), zb4 (lvlR bs) k j us d l = some (xs, l') -> zcd k 4 v e i xs = true -> zdz xs
 | [], j, d, l, xs, l', v, e, i, h, ha => by
  rw [zb4] at h
  cases h
  unfold zdz
  trivial
 | u :: r, j, d, l, xs, l', v, e, i, h, ha => by
  rw [zb4] at h
  split at h
  ·cases h
  ·rename_i y l1 hy
   split at h
   ·cases h
   ·rename_i ys l2 hys
    cases h
    unfold zcd at ha
    rw [Bool.and_eq_true] at ha
    unfold zdz
    exact ⟨zjf hb u _ _ _ _ _ _ hy ha.1, zh7 hb k r _ _ _ _ _ v e (i + 1) hys ha.2⟩
end
theorem zgs {bs : List Lv} (hb : ∀ b ∈ bs, zbt b) {t y : Tm} (h : zdx bs t = some y) : zbe 0 1099511627776 y = true := by
 unfold zdx at h
 obtain ⟨_, h2, l, h3⟩ := zod h
 unfold zbg zbe at h2
 simp only [Bool.and_eq_true] at h2
 unfold zbe
 simp only [Bool.and_eq_true]
 exact ⟨by decide, by decide, h2.2.2.1, h2.2.2.2.1, h2.2.2.2.2.1, zm9 y _ _ h2.2.2.2.2.2 (zjf hb t 0 3000 y l _ _ h3 h2.2.2.2.2.2)⟩
end Go.Proofs.YtmkpiekbpakigaaDoor
end
section
set_option linter.unusedVariables false
set_option linter.unusedSimpArgs false
namespace Go.Proofs.YtmkpiekbpakigaaDoor
open Go.RowKit Go.Proofs.Base Go.Proofs.Sym
theorem ztb : ∀ ls : List Lv, (∀ l ∈ ls, l.right = true) -> zbq ownL ls = some ls
 | [], _ => rfl
 | l :: r, h => by
  rw [zbq, zw0 (h l List.mem_cons_self), ztb r (fun x hx => h x (List.mem_cons_of_mem _ hx))]
  rfl
mutual
theorem zqb : ∀ (t : Tm) (d l v e : Int), allT 4 v e t = true -> tmB t -> (zbk t : Int) <= l -> l <= 3000 -> zc1 (lvlR ownL) t d l = some (t, l - (zbk t : Int))
 | .mk k n s ls us, d, l, v, e, h, hB, hl, hl2 => by
  have h0 := h
  unfold allT at h
  rw [Bool.and_eq_true] at h
  obtain ⟨h1, h2⟩ := h
  obtain ⟨n1, n2⟩ := zhu h1
  have n3 := zgd n2
  have hsz : zbk (.mk k n s ls us) = 1 + ls.length + zct us := by rw [zbk]
  have hB1 := hB
  unfold tmB at hB
  rw [zc1]
  have hR : lvlR ownL (.mk k n s ls us) d = lvlT k n s us (decide ((ls.length : Int) = 0)) (zbq ownL ls) := rfl
  rw [hR, ztb ls (fun l hm => (n3.2 l hm).1)]
  by_cases hz : (ls.length : Int) = 0
  ·rw [decide_eq_true hz]
   show zh8 k n s ls (decide (0 <= IntKind.i64.wrap (l - IntKind.i64.wrap (1 + (ls.length : Int))))) (zb4 (lvlR ownL) k 0 us d (IntKind.i64.wrap (l - IntKind.i64.wrap (1 + (ls.length : Int))))) = _
   rw [zbn (n := 1 + (ls.length : Int)) (by omega) (by omega), zbn (n := l - (1 + (ls.length : Int))) (by omega) (by omega), decide_eq_true (by omega), zmn k us 0 d _ v e 0 h2 hB.2.2 (by omega) (by omega)]
   show some (_, _) = some (_, _)
   rw [hsz]
   congr 2
   omega
  ·rw [decide_eq_false hz]
   show zkp (.mk k n s ls us) (IntKind.i64.wrap (l - zb6 (.mk k n s ls us))) (decide (0 <= IntKind.i64.wrap (l - zb6 (.mk k n s ls us)))) = _
   rw [zjg hB1, if_pos (by omega), zbn (n := l - (zbk (.mk k n s ls us) : Int)) (by omega) (by omega), decide_eq_true (by omega)]
   rfl
theorem zmn (k : Int) : ∀ (us : List Tm) (j d l v e : Int) (i : Nat), zcd k 4 v e i us = true -> tmBs us -> (zct us : Int) <= l -> l <= 3000 -> zb4 (lvlR ownL) k j us d l = some (us, l - (zct us : Int))
 | [], j, d, l, v, e, i, h, hB, hl, hl2 => by
  rw [zb4, zct]
  simp
 | u :: r, j, d, l, v, e, i, h, hB, hl, hl2 => by
  unfold zcd at h
  rw [Bool.and_eq_true] at h
  unfold tmBs at hB
  have hsz : zct (u :: r) = zbk u + zct r := by rw [zct]
  rw [hsz] at hl ⊢
  rw [zb4, zqb u _ l _ _ h.1 hB.1 (by omega) hl2]
  simp only
  rw [zmn k r (j + 1) d _ v e (i + 1) h.2 hB.2 (by omega) (by omega)]
  simp only
  congr 2
  omega
end
theorem zr1 {t : Tm} (hr : zbg t = true) (hB : tmB t) : zdx ownL t = some t := by
 have hz := zo1 hB hr
 unfold zdx zd5
 rw [hr]
 simp only
 have h2 := hr
 unfold zbg zbe at h2
 simp only [Bool.and_eq_true] at h2
 rw [zqb t 0 3000 _ _ h2.2.2.2.2.2 hB (by omega) (Int.le_refl _)]
 show zn0 t (zbg t) = some t
 rw [hr]
 rfl
end Go.Proofs.YtmkpiekbpakigaaDoor
end
section
set_option linter.unusedVariables false
set_option linter.unusedSimpArgs false
namespace Go.Proofs.YtmkpiekbpakigaaDoor
open Go.RowKit Go.Proofs.Base Go.Proofs.Sym
def mlG (ys : List TT) (B : Option Addr) (c : Nat) (bs : List Lv) (w : World) : Prop := amG ys w /\ zb9 w B bs
theorem mlG.up (ys : List TT) (B : Option Addr) (c : Nat) (bs : List Lv) : Up (mlG ys B c bs) := (amG.up _).and (zb9.up _ _)
set_option maxHeartbeats 8000000 in
theorem zma (t : TT) (B : Option Addr) (c : Nat) (bs : List Lv) (hB : tmB t.tm) : PCall Tryd.prog 12 [t.val, .slice B bs.length c] (mlG [t] B c bs) (fun r => r = .bool true) (fun _ _ => True) := by
 have hg8 := zsv t
 obtain ⟨g8, hg8e⟩ : ∃ B, decide (3600 < zdo 3600 t) = B := ⟨_, rfl⟩
 rw [hg8e] at hg8
 have hany := zy0 t
 obtain ⟨ab, hab⟩ : ∃ b, zbe 4 1099511627776 t.tm = b := ⟨_, rfl⟩
 rw [hab] at hany
 clear hg8e
 obtain ⟨xk, xn, xs, xla, xlc, xls, xaa, xac, xus⟩ := t
 refine zat zae 83 [.tmp 4] Tryd.func12 rfl rfl (by kernel_rfl) rfl _ (leB rfl) (mlG.up _ _ _ _) (fun _ => Up.true) ?_
 refine zah zae [3] _ _ _ ?_
 refine zag zti (fun _ => rfl) (fun w h => h.1.1.1) ?_
 rintro r rfl
 refine zak.ent (st' := { s := [(1, .one (.v (.slice B bs.length c))), (2, .one (.p 0 0))], m := [(0, .cells 41 ((TT.mk xk xn xs xla xlc xls xaa xac xus).cells.map SA.v))], k := 1, f := [mlG [(TT.mk xk xn xs xla xlc xls xaa xac xus)] B c bs] }) (zab [(0, .blk 0)] rfl rfl rfl rfl (leB rfl) (rs rfl rfl) (rm rfl rfl) ⟨⟨mlG.up _ _ _ _, fun w h => h.2.1⟩, trivial⟩) ?_
 refine zah zae [5] _ _ _ ?_
 refine zag hg8 (fun _ => rfl) (fun w h => h.1.1.get 0 rfl) ?_
 rintro r rfl
 cases g8 with
 | true => exact ⟨_, rfl, Told.val rfl⟩
 | false =>
 refine zag hany (fun _ => rfl) (fun w h => h.2.1.1.get 0 rfl) ?_
 rintro r rfl
 cases ab with
 | false => exact ⟨_, rfl, Told.val rfl⟩
 | true =>
 have hright : zbg (TT.mk xk xn xs xla xlc xls xaa xac xus).tm = true := hab
 refine zaf (fun h => ?_) (fun h10 => ?_)
 ·exact ⟨_, rfl, Told.val rfl⟩
 have h10 : bs.length <= 10 := by
  have h : decide (10 < (bs.length : Int)) = false := h10
  have := of_decide_eq_false h
  omega
 refine zak.ent (st' := { s := [(1, .one (.v (.slice B bs.length c))), (2, .one (.p 0 0))], m := [(0, .cells 41 ((TT.mk xk xn xs xla xlc xls xaa xac xus).cells.map SA.v))], k := 1, f := [mlG [(TT.mk xk xn xs xla xlc xls xaa xac xus)] B c bs] }) (zab [(0, .blk 0)] rfl rfl rfl rfl (leB rfl) (rs rfl rfl) (rm rfl rfl) ⟨⟨mlG.up _ _ _ _, fun w h => h.2.2.1⟩, trivial⟩) ?_
 refine zah zae [9, 10] _ _ _ ?_
 refine ⟨⟨Nat, fun i => i <= 4, fun i => { s := [(1, .one (.v (.slice B bs.length c))), (2, .one (.p 0 0)), (5, .one (.row 1)), (6, .one (.v (.int .i64 (i : Int))))], m := [(0, .cells 41 ((TT.mk xk xn xs xla xlc xls xaa xac xus).cells.map SA.v)), (1, .own 24 5 i (lvsC (ownL.take i)))], k := 2, f := [mlG [(TT.mk xk xn xs xla xlc xls xaa xac xus)] B c bs] }, fun i => 4 - i, ⟨0, by decide, (zab [(0, .blk 0), (1, .lit 1 0)] rfl rfl rfl rfl (leB rfl) ⟨⟨_, rfl, rfl⟩, ⟨_, rfl, rfl⟩, ⟨_, rfl, rfl⟩, ⟨_, rfl, rfl⟩, trivial⟩ ⟨⟨_, rfl, rfl⟩, ⟨rfl, by decide, _, rfl, rfl, rfl⟩, trivial⟩ ⟨⟨mlG.up _ _ _ _, fun w h => h.1⟩, trivial⟩)⟩, ?_⟩⟩
 intro i hi
 have hi : i <= 4 := hi
 refine zaf (fun hlt0 => ?_) (fun hge0 => ?_)
 rotate_left
 ·have h4 : i = 4 := by
   have h : decide ((i : Int) < 4) = false := hge0
   have := of_decide_eq_false h
   omega
  subst h4
  refine zak.freeze2 1 rfl (fun A' cp' g0 g1 g2 g3 => ?_)
  refine zak.ent (st' := { s := [(1, .one (.v (.slice B bs.length c))), (2, .one (.p 0 0)), (5, .one (.v (.slice A' 4 cp')))], m := [(0, .cells 41 ((TT.mk xk xn xs xla xlc xls xaa xac xus).cells.map SA.v))], k := 1, f := [mlG [(TT.mk xk xn xs xla xlc xls xaa xac xus)] B c bs, (fun w => zb9 w A' ownL)] }) (zab [(0, .blk 0)] rfl rfl rfl rfl (leB rfl) (rs rfl rfl) (rm rfl rfl) ⟨⟨mlG.up _ _ _ _, fun w h => h.2.1⟩, ⟨zb9.up _ _, fun w h => zey (by decide) g0 h.1⟩, trivial⟩) ?_
  have hl := zg2 (TT.mk xk xn xs xla xlc xls xaa xac xus) A' cp' ownL hB
  rw [zr1 hright hB] at hl
  refine zah zae [11] _ _ _ ?_
  refine zad [] hl rfl trivial rfl rfl (fun w h => ⟨⟨h.1.1.1, h.2.1⟩, h.1.1.get 0 rfl⟩) (fun x _ => ?_) (fun x hx => ?_)
  ·obtain ⟨vk, vn, vnm, vla, vlc, vls, vaa, vac, vus⟩ := x
   exact ⟨rfl, rfl⟩
  have hx : x.tm = (TT.mk xk xn xs xla xlc xls xaa xac xus).tm := hx
  obtain ⟨yk, yn, ys, yla, ylc, yls, yaa, yac, yus⟩ := x
  refine zak.ent (st' := { s := [(1, .one (.v (.slice B bs.length c))), (2, .one (.p 0 0)), (7, .one (.p 1 0)), (8, .one (.v (.bool true)))], m := [(0, .cells 41 ((TT.mk xk xn xs xla xlc xls xaa xac xus).cells.map SA.v)), (1, .cells 41 ((TT.mk yk yn ys yla ylc yls yaa yac yus).cells.map SA.v))], k := 2, f := [mlG [(TT.mk yk yn ys yla ylc yls yaa yac yus), (TT.mk xk xn xs xla xlc xls xaa xac xus)] B c bs] }) (zab [(0, .blk 0), (1, .blk 1)] rfl rfl rfl rfl (leB rfl) (rs rfl rfl) (rm rfl rfl) ⟨⟨mlG.up _ _ _ _, fun w h => ⟨h.2.1.1.cons h.1, h.2.1.2⟩⟩, trivial⟩) ?_
  refine zah zae [13] _ _ _ ?_
  refine zag (zki (TT.mk yk yn ys yla ylc yls yaa yac yus) (TT.mk xk xn xs xla xlc xls xaa xac xus) hx) (fun _ => rfl) (fun w h => ⟨h.1.1.get 0 rfl, h.1.1.get 1 rfl⟩) ?_
  rintro r rfl
  refine zak.ent (st' := { s := [(1, .one (.v (.slice B bs.length c))), (2, .one (.p 0 0))], m := [(0, .cells 41 ((TT.mk xk xn xs xla xlc xls xaa xac xus).cells.map SA.v))], k := 1, f := [mlG [(TT.mk yk yn ys yla ylc yls yaa yac yus), (TT.mk xk xn xs xla xlc xls xaa xac xus)] B c bs] }) (zab [(0, .blk 0)] rfl rfl rfl rfl (leB rfl) (rs rfl rfl) (rm rfl rfl) ⟨⟨mlG.up _ _ _ _, fun w h => h.2.1⟩, trivial⟩) ?_
  refine zah zae [17, 18] _ _ _ ?_
  refine ⟨⟨Nat, fun i => i <= 4 /\ i <= bs.length, fun i => { s := [(1, .one (.v (.slice B bs.length c))), (2, .one (.p 0 0)), (9, .one (.row 1)), (10, .one (.v (.int .i64 (i : Int))))], m := [(0, .cells 41 ((TT.mk xk xn xs xla xlc xls xaa xac xus).cells.map SA.v)), (1, .own 24 5 i (lvsC ((bs.take i).map fun l => Lv.num l.b)))], k := 2, f := [mlG [(TT.mk yk yn ys yla ylc yls yaa yac yus), (TT.mk xk xn xs xla xlc xls xaa xac xus)] B c bs] }, fun i => 4 - i, ⟨0, ⟨by decide, Nat.zero_le _⟩, (zab [(0, .blk 0), (1, .lit 1 0)] rfl rfl rfl rfl (leB rfl) ⟨⟨_, rfl, rfl⟩, ⟨_, rfl, rfl⟩, ⟨_, rfl, rfl⟩, ⟨_, rfl, rfl⟩, trivial⟩ ⟨⟨_, rfl, rfl⟩, ⟨rfl, by decide, _, rfl, rfl, rfl⟩, trivial⟩ ⟨⟨mlG.up _ _ _ _, fun w h => h.1⟩, trivial⟩)⟩, ?_⟩⟩
  rintro i ⟨hi4, hib⟩
  have hi4 : i <= 4 := hi4
  have hib : i <= bs.length := hib
  refine zaf (fun h1 => ?_) (fun h1 => ?_)
  refine zaf (fun h2 => ?_) (fun h2 => ?_)
  rotate_left
  ·refine zak.freeze2 1 rfl (fun A2 cp2 g0 g1 g2 g3 => ?_)
   have hln : ((bs.take i).map fun l => Lv.num l.b).length = i := by rw [List.length_map, List.length_take]; omega
   refine zak.ent (st' := { s := [(1, .one (.v (.slice B bs.length c))), (2, .one (.p 0 0)), (9, .one (.v (.slice A2 i cp2)))], m := [(0, .cells 41 ((TT.mk xk xn xs xla xlc xls xaa xac xus).cells.map SA.v))], k := 1, f := [mlG [(TT.mk yk yn ys yla ylc yls yaa yac yus), (TT.mk xk xn xs xla xlc xls xaa xac xus)] B c bs, (fun w => zb9 w A2 ((bs.take i).map fun l => Lv.num l.b))] }) (zab [(0, .blk 0)] rfl rfl rfl rfl (leB rfl) (rs rfl rfl) (rm rfl rfl) ⟨⟨mlG.up _ _ _ _, fun w h => h.2.1⟩, ⟨zb9.up _ _, fun w h => zey (by rw [hln]; omega) g0 h.1⟩, trivial⟩) ?_
   have hl2 := (zg2 (TT.mk xk xn xs xla xlc xls xaa xac xus) A2 cp2 ((bs.take i).map fun l => Lv.num l.b) hB).q
   rw [hln] at hl2
   refine zah zae [19] _ _ _ ?_
   refine zad [] hl2 rfl trivial rfl rfl (fun w h => ⟨⟨h.1.1.1, h.2.1⟩, h.1.1.get 1 rfl⟩) (fun q _ => ?_) (fun q hq => ?_)
   ·obtain ⟨q1, vk, vn, vnm, vla, vlc, vls, vaa, vac, vus⟩ := q
    exact ⟨rfl, rfl⟩
   obtain ⟨q1, zk, zn, zs, zla, zlc, zls, zaa, zac, zus⟩ := q
   have hq : qOk _ (q1, (TT.mk zk zn zs zla zlc zls zaa zac zus)) := hq
   have hq2 : q1 = true -> zbe 0 1099511627776 (TT.mk zk zn zs zla zlc zls zaa zac zus).tm = true := by
    rintro rfl
    refine zgs (bs := (bs.take i).map fun l => Lv.num l.b) (fun b hb => ?_) (zqt hq)
    obtain ⟨l, _, rfl⟩ := List.mem_map.1 hb
    exact zd8 _
   have hrr := zi3 0 1099511627776 (TT.mk zk zn zs zla zlc zls zaa zac zus)
   clear hq
   refine zah zae [] _ _ _ ?_
   cases q1 with
   | false => exact ⟨_, rfl, Told.val rfl⟩
   | true =>
   rw [hq2 rfl] at hrr
   refine zag hrr (fun _ => rfl) (fun w h => h.1) ?_
   rintro r rfl
   exact ⟨_, rfl, Told.val rfl⟩
  ·refine zak.freeze2 1 rfl (fun A2 cp2 g0 g1 g2 g3 => ?_)
   have hln : ((bs.take i).map fun l => Lv.num l.b).length = i := by rw [List.length_map, List.length_take]; omega
   refine zak.ent (st' := { s := [(1, .one (.v (.slice B bs.length c))), (2, .one (.p 0 0)), (9, .one (.v (.slice A2 i cp2)))], m := [(0, .cells 41 ((TT.mk xk xn xs xla xlc xls xaa xac xus).cells.map SA.v))], k := 1, f := [mlG [(TT.mk yk yn ys yla ylc yls yaa yac yus), (TT.mk xk xn xs xla xlc xls xaa xac xus)] B c bs, (fun w => zb9 w A2 ((bs.take i).map fun l => Lv.num l.b))] }) (zab [(0, .blk 0)] rfl rfl rfl rfl (leB rfl) (rs rfl rfl) (rm rfl rfl) ⟨⟨mlG.up _ _ _ _, fun w h => h.2.1⟩, ⟨zb9.up _ _, fun w h => zey (by rw [hln]; omega) g0 h.1⟩, trivial⟩) ?_
   have hl2 := (zg2 (TT.mk xk xn xs xla xlc xls xaa xac xus) A2 cp2 ((bs.take i).map fun l => Lv.num l.b) hB).q
   rw [hln] at hl2
   refine zah zae [19] _ _ _ ?_
   refine zad [] hl2 rfl trivial rfl rfl (fun w h => ⟨⟨h.1.1.1, h.2.1⟩, h.1.1.get 1 rfl⟩) (fun q _ => ?_) (fun q hq => ?_)
   ·obtain ⟨q1, vk, vn, vnm, vla, vlc, vls, vaa, vac, vus⟩ := q
    exact ⟨rfl, rfl⟩
   obtain ⟨q1, zk, zn, zs, zla, zlc, zls, zaa, zac, zus⟩ := q
   have hq : qOk _ (q1, (TT.mk zk zn zs zla zlc zls zaa zac zus)) := hq
   have hq2 : q1 = true -> zbe 0 1099511627776 (TT.mk zk zn zs zla zlc zls zaa zac zus).tm = true := by
    rintro rfl
    refine zgs (bs := (bs.take i).map fun l => Lv.num l.b) (fun b hb => ?_) (zqt hq)
    obtain ⟨l, _, rfl⟩ := List.mem_map.1 hb
    exact zd8 _
   have hrr := zi3 0 1099511627776 (TT.mk zk zn zs zla zlc zls zaa zac zus)
   clear hq
   refine zah zae [] _ _ _ ?_
   cases q1 with
   | false => exact ⟨_, rfl, Told.val rfl⟩
   | true =>
   rw [hq2 rfl] at hrr
   refine zag hrr (fun _ => rfl) (fun w h => h.1) ?_
   rintro r rfl
   exact ⟨_, rfl, Told.val rfl⟩
  have hlt4 : i < 4 := by
   have h : decide ((i : Int) < 4) = true := h1
   have := of_decide_eq_true h
   omega
  have hltb : i < bs.length := by
   have h : decide ((i : Int) < (bs.length : Int)) = true := h2
   have := of_decide_eq_true h
   omega
  clear h1 h2
  obtain ⟨l, hl3⟩ : ∃ l, bs[i]? = some l := ⟨_, List.getElem?_eq_getElem hltb⟩
  refine zak.told (p := ∃ a, B = some a) (fun w h => ?_) ?_
  ·obtain ⟨a, ha, _⟩ := zb1 h.1.2 hl3
   exact ⟨a, ha⟩
  rintro ⟨b0, rfl⟩
  refine zah zae [] _ _ _ ?_
  refine ⟨{ n := i }, ⟨rfl, hltb, fun w h => rfl⟩, ?_⟩
  refine ⟨{ v := .int .i64 l.b }, fun w h => ?_, ?_⟩
  ·obtain ⟨a, ha, hc⟩ := zb1 h.1.2 hl3
   cases ha
   exact ⟨_, rfl, hc 0 _ rfl⟩
  refine zad [] (zu3 l.b) rfl trivial rfl rfl (fun _ _ => trivial) (fun _ _ => ⟨rfl, rfl⟩) (fun _ _ => ?_)
  have hmx : i + 1 <= maxLen := by simp only [maxLen]; omega
  refine ⟨{}, ⟨trivial, Nat.succ_pos _, .inr rfl, hmx, by show (i + 1) * 40 <= 140737488355328; omega⟩, ?_⟩
  have hxs : lvsC ((bs.take i).map fun l => Lv.num l.b) ++ zba (Lv.num l.b) = lvsC ((bs.take (i + 1)).map fun l => Lv.num l.b) := by
   rw [List.take_add_one, hl3, List.map_append]
   simp [lvsC]
  refine ⟨i + 1, ⟨hlt4, hltb⟩, by show 4 - (i + 1) < 4 - i; omega, ?_⟩
  exact (zab [(0, .blk 0), (1, .own 3)] rfl rfl rfl rfl (leB rfl) ⟨⟨_, rfl, rfl⟩, ⟨_, rfl, rfl⟩, ⟨_, rfl, rfl⟩, ⟨_, rfl, oneI (zbn (by omega) (by omega))⟩, trivial⟩ ⟨⟨_, rfl, rfl⟩, ⟨_, _, rfl, rfl, hxs⟩, trivial⟩ ⟨⟨mlG.up _ _ _ _, fun w h => h.2.1⟩, trivial⟩)
 have hlt : i < 4 := by
  have h : decide ((i : Int) < 4) = true := hlt0
  have := of_decide_eq_true h
  omega
 refine zah zae [] _ _ _ ?_
 refine zad [] (zvd i hlt) rfl trivial rfl rfl (fun _ _ => trivial) (fun _ _ => ⟨rfl, rfl⟩) (fun _ _ => ?_)
 have hmx : i + 1 <= maxLen := by simp only [maxLen]; omega
 refine ⟨{}, ⟨trivial, Nat.succ_pos _, .inr rfl, hmx, by show (i + 1) * 40 <= 140737488355328; omega⟩, ?_⟩
 have hxs : lvsC (ownL.take i) ++ zba (ownP i) = lvsC (ownL.take (i + 1)) := by
  have h4 : i = 0 \/ i = 1 \/ i = 2 \/ i = 3 := by omega
  rcases h4 with rfl | rfl | rfl | rfl <;> rfl
 refine ⟨i + 1, hlt, by show 4 - (i + 1) < 4 - i; omega, ?_⟩
 exact (zab [(0, .blk 0), (1, .own 3)] rfl rfl rfl rfl (leB rfl) ⟨⟨_, rfl, rfl⟩, ⟨_, rfl, rfl⟩, ⟨_, rfl, rfl⟩, ⟨_, rfl, oneI (zbn (by omega) (by omega))⟩, trivial⟩ ⟨⟨_, rfl, rfl⟩, ⟨_, _, rfl, rfl, hxs⟩, trivial⟩ ⟨⟨mlG.up _ _ _ _, fun w h => h.2.1⟩, trivial⟩)
end Go.Proofs.YtmkpiekbpakigaaDoor
end
section
set_option linter.unusedVariables false
set_option linter.unusedSimpArgs false
namespace Go.Proofs.YtmkpiekbpakigaaDoor
open Go.ChangeShapes Go.WideShapes Go.ChangeAt Go.RowKit Go.Proofs.Base Go.Proofs.Sym
theorem zjj (t : TT) (B : Option Addr) (n c : Nat) (bs : List Lv) (hn : n = bs.length) (ht : TTB t) (w : World) (hp : mlG [t] B c bs w) : Calls Tryd.prog 12 #[t.val, .slice B n c] w fun e w' => e = .returned (.bool true) /\ Below w.heap.size w w' := by
 subst hn
 exact zy5 (zma t B c bs (zuz t ht)) (mlG.up _ _ _ _) w hp
end Go.Proofs.YtmkpiekbpakigaaDoor
end
