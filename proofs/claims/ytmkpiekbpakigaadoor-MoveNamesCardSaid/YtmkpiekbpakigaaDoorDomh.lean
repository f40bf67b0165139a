/- What the claim needs of Mv6, Mv7, Mv8, Mv9, Mv10, Mv11, Ms0, SymT, in one text. -/
import Derived.Test.YtmkpiekbpakigaaDoorDomg
section
set_option linter.unusedVariables false
set_option linter.unusedSimpArgs false
namespace Go.Proofs.YtmkpiekbpakigaaDoor
open Go.RowKit Go.Proofs.Base Go.Proofs.Sym
mutual
def za8 : Tm -> Nat
 | .mk _ _ _ ls us => 1 + ls.length + zbf us
def zbf : List Tm -> Nat
 | [] => 0
 | t :: r => za8 t + zbf r
end
theorem zt3 (t : Tm) : 1 <= za8 t := by
 cases t
 rw [za8]
 omega
theorem zfx : ∀ (us : List Tm), us.length <= zbf us
 | [] => Nat.zero_le _
 | t :: r => by
  have := zfx r
  have := zt3 t
  rw [zbf, List.length_cons]
  omega
mutual
theorem zmv (c : Int) (h0 : 0 <= c) (h1 : c <= 3000) : ∀ (t : Tm), tmB t -> (c + za8 t <= 3000 /\ visT c t = (c + za8 t, true)) \/ (3000 < c + (za8 t : Int) /\ (visT c t).2 = false /\ 3000 < (visT c t).1)
 | .mk k n s ls us, h => by
  rw [tmB] at h
  have hl := h.1
  have hc : cntB c ls = c + (1 + (ls.length : Int)) := by
   unfold cntB
   rw [za9 (n := 1 + (ls.length : Int)) (by omega) (by omega), za9 (by omega) (by omega)]
  rw [visT, za8, hc]
  by_cases hle : c + (1 + (ls.length : Int)) <= 3000
  ·rw [decide_eq_true hle]
   simp only
   have := zkv (c + (1 + (ls.length : Int))) (by omega) hle us h.2.2
   rcases this with ⟨g1, g2⟩ | ⟨g1, g2, g3⟩
   ·refine .inl ⟨by omega, ?_⟩
    rw [g2]
    congr 1
    omega
   ·exact .inr ⟨by omega, g2, g3⟩
  ·rw [decide_eq_false hle]
   exact .inr ⟨by omega, rfl, by simp only; omega⟩
theorem zkv (c : Int) (h0 : 0 <= c) (h1 : c <= 3000) : ∀ (us : List Tm), tmBs us -> (c + zbf us <= 3000 /\ zdk c us = (c + zbf us, true)) \/ (3000 < c + (zbf us : Int) /\ (zdk c us).2 = false /\ 3000 < (zdk c us).1)
 | [], _ => by
  rw [zdk, zbf]
  exact .inl ⟨by omega, by simp⟩
 | t :: r, h => by
  rw [tmBs] at h
  rw [zdk, zbf]
  rcases zmv c h0 h1 t h.1 with ⟨g1, g2⟩ | ⟨g1, g2, g3⟩
  ·rw [g2]
   simp only
   rcases zkv (c + za8 t) (by omega) g1 r h.2 with ⟨g3, g4⟩ | ⟨g3, g4, g5⟩
   ·refine .inl ⟨by omega, ?_⟩
    rw [g4]
    congr 1
    omega
   ·exact .inr ⟨by omega, g4, g5⟩
  ·rw [g2]
   exact .inr ⟨by omega, rfl, g3⟩
end
theorem zi5 {t : Tm} (h : tmB t) : zcb t = if za8 t <= 3000 then (za8 t : Int) else 3001 := by
 unfold zcb
 rcases zmv 0 (by omega) (by omega) t h with ⟨g1, g2⟩ | ⟨g1, g2, g3⟩
 ·rw [g2]
  simp only
  rw [if_neg (by omega), if_pos (by omega)]
  omega
 ·rw [if_neg (c := za8 t <= 3000) (by omega)]
  split
  ·rfl
  ·omega
mutual
theorem zc2 : ∀ (t : Tm), za8 t <= 3000 -> tmB t
 | .mk k n s ls us, h => by
  rw [za8] at h
  have := zfx us
  rw [tmB]
  exact ⟨by omega, by omega, zme us (by omega)⟩
theorem zme : ∀ (us : List Tm), zbf us <= 3000 -> tmBs us
 | [], _ => by rw [tmBs]; trivial
 | t :: r, h => by
  rw [zbf] at h
  rw [tmBs]
  exact ⟨zc2 t (by omega), zme r (by omega)⟩
end
def zbe (t : Tm) : Bool := zbm 4 1099511627776 t
theorem zin {t : Tm} (h : tmB t) (hr : zbe t = true) : za8 t <= 3000 := by
 unfold zbe zbm at hr
 simp only [Bool.and_eq_true, decide_eq_true_eq] at hr
 have h1 := hr.2.2.2.2.1
 rw [zi5 h] at h1
 split at h1
 ·assumption
 ·omega
def zrl (x : Tm) : Bool -> Option Tm
 | true => some x
 | false => none
def zy5 : Option (Tm × Int) -> Option Tm
 | none => none
 | some (x, _) => zrl x (zbe x)
def ze6 (φ : Tm -> Int -> Option (Option Tm)) (t : Tm) : Option Tm := match zbe t with
 | false => none
 | true => zy5 (zdj φ t 0 3000)
end Go.Proofs.YtmkpiekbpakigaaDoor
end
section
set_option linter.unusedVariables false
set_option linter.unusedSimpArgs false
namespace Go.Proofs.YtmkpiekbpakigaaDoor
open Go.RowKit Go.Proofs.Base Go.Proofs.Sym
set_option maxHeartbeats 4000000 in
theorem zlp (f : FuncId) (c1 c2 : Value) (pre : World -> Prop) (hpre : Up pre) (φ : Tm -> Int -> Option (Option Tm))
  (hφ : ∀ (t : TT) (d : Int), tmB t.tm -> zav Tryd.prog f [ttA t, .one (.v (.int .i64 d)), .one (.v c1), .one (.v c2)] [] 0 (fun w => pre w /\ TTIn w t) (ze5 (φ t.tm d)) (zb7 (φ t.tm d))) (t : TT) (hB : tmB t.tm) :
  zav Tryd.prog 79 [ttA t, .one (.fn f [] [.v c1, .v c2])] [] 0 (fun w => (ML w /\ pre w) /\ TTIn w t) (ze5 (some (ze6 φ t.tm))) (zb7 (some (ze6 φ t.tm))) := by
 have hr := zb4 t
 have hw := zpq f c1 c2 pre hpre φ hφ t 0 3000 hB
 have hspec := show ze6 φ t.tm = _ by rw [ze6]
 obtain ⟨R, hR⟩ : ∃ R, ze6 φ t.tm = R := ⟨_, rfl⟩
 rw [hR] at hspec ⊢
 obtain ⟨b1, hb1⟩ : ∃ b, zbe t.tm = b := ⟨_, rfl⟩
 rw [hb1] at hspec
 rw [show zbm 4 1099511627776 t.tm = b1 from hb1] at hr
 obtain ⟨W, hW⟩ : ∃ W, zdj φ t.tm 0 3000 = W := ⟨_, rfl⟩
 rw [hW] at hspec hw
 clear hR hb1 hW
 obtain ⟨k, n, s, la, lc, ls, aa, ac, us⟩ := t
 have hn1 := zgx b1
 refine zt0 ((ML.up.and hpre).and (TTIn.upS _)) _ _ fun c2 hc2 => ?_
 cases hc2
 cases b1 with
 | false =>
  have hspec : R = none := hspec
  subst hspec
  refine zaf zac [] _ _ _ ?_
  refine zae hr (fun _ => rfl) (fun w h => ⟨h.1.1.1, h.1.2⟩) ?_
  rintro r rfl
  refine zab [] hn1 rfl trivial rfl rfl (fun _ _ => trivial) (fun _ _ => ⟨rfl, rfl⟩) (fun _ _ => ?_)
  exact ⟨rfl, zab [1, 2] (zbv _ _ _ _ _ false) rfl ⟨rfl, rfl, trivial⟩ rfl rfl (fun _ _ => trivial) (fun _ _ => ⟨rfl, rfl⟩) (fun _ _ => ⟨_, rfl, zba 0 0 ⟨#[]⟩, trivial, rfl, zaa [] rfl rfl rfl rfl (Nat.zero_le _) ⟨⟨_, rfl, rfl⟩, trivial⟩ trivial ⟨⟨Up.true, fun _ _ => trivial⟩, trivial⟩⟩)⟩
 | true =>
 have hspec : R = zy5 W := hspec
 refine zaf zac [] _ _ _ ?_
 refine zae hr (fun _ => rfl) (fun w h => ⟨h.1.1.1, h.1.2⟩) ?_
 rintro r rfl
 refine zab [] hn1 rfl trivial rfl rfl (fun _ _ => trivial) (fun _ _ => ⟨rfl, rfl⟩) (fun _ _ => ?_)
 cases W with
 | none =>
  have hspec : R = none := hspec
  subst hspec
  refine zab [3] hw rfl ⟨rfl, trivial⟩ rfl rfl (fun w h => ⟨h.2.2.1.1.2, h.2.2.1.2⟩) (fun _ _ => ⟨rfl, rfl⟩) (fun _ _ => ?_)
  exact ⟨rfl, zab [1, 2] (zbv _ _ _ _ _ false) rfl ⟨rfl, rfl, trivial⟩ rfl rfl (fun _ _ => trivial) (fun _ _ => ⟨rfl, rfl⟩) (fun _ _ => ⟨_, rfl, zba 0 0 ⟨#[]⟩, trivial, rfl, zaa [] rfl rfl rfl rfl (Nat.zero_le _) ⟨⟨_, rfl, rfl⟩, trivial⟩ trivial ⟨⟨Up.true, fun _ _ => trivial⟩, trivial⟩⟩)⟩
 | some q =>
 obtain ⟨x0, l2⟩ := q
 have hspec : R = zrl x0 (zbe x0) := hspec
 refine zab [3] hw rfl ⟨rfl, trivial⟩ rfl rfl (fun w h => ⟨h.2.2.1.1.2, h.2.2.1.2⟩) (fun x _ => ?_) (fun x hx => ?_)
 ·obtain ⟨xk, xn, xnm, xla, xlc, xls, xaa, xac, xus⟩ := x
  exact ⟨rfl, rfl⟩
 have hx : x.tm = x0 := hx
 have hr2 := zb4 x
 obtain ⟨b2, hb2⟩ : ∃ b, zbe x0 = b := ⟨_, rfl⟩
 rw [hx, show zbm 4 1099511627776 x0 = b2 from hb2] at hr2
 rw [hb2] at hspec
 have hn2 := zgx b2
 obtain ⟨xk, xn, xnm, xla, xlc, xls, xaa, xac, xus⟩ := x
 refine zae hr2 (fun _ => rfl) (fun w h => ⟨h.2.2.2.1.1.1, h.1⟩) ?_
 rintro r rfl
 cases b2 with
 | false =>
  have hspec : R = none := hspec
  subst hspec
  refine zab [] hn2 rfl trivial rfl rfl (fun _ _ => trivial) (fun _ _ => ⟨rfl, rfl⟩) (fun _ _ => ?_)
  exact ⟨rfl, zab [1, 2] (zbv _ _ _ _ _ false) rfl ⟨rfl, rfl, trivial⟩ rfl rfl (fun _ _ => trivial) (fun _ _ => ⟨rfl, rfl⟩) (fun _ _ => ⟨_, rfl, zba 0 0 ⟨#[]⟩, trivial, rfl, zaa [] rfl rfl rfl rfl (Nat.zero_le _) ⟨⟨_, rfl, rfl⟩, trivial⟩ trivial ⟨⟨Up.true, fun _ _ => trivial⟩, trivial⟩⟩)⟩
 | true =>
 have hspec : R = some x0 := hspec
 subst hspec
 refine zab [] hn2 rfl trivial rfl rfl (fun _ _ => trivial) (fun _ _ => ⟨rfl, rfl⟩) (fun _ _ => ?_)
 refine zab [1, 2] (zgy _ _ _ _ _ true) rfl ⟨rfl, rfl, trivial⟩ rfl rfl (fun _ _ => trivial) (fun _ _ => ⟨rfl, rfl⟩) (fun _ _ => ?_)
 refine ⟨_, rfl, TT.mk xk xn xnm xla xlc xls xaa xac xus, hx, rfl, ?_⟩
 exact zaa [] rfl rfl rfl rfl (Nat.zero_le _) ⟨⟨_, rfl, rfl⟩, trivial⟩ trivial ⟨⟨TTIn.upS _, fun w h => h.2.2.2.1⟩, trivial⟩
set_option maxHeartbeats 4000000 in
theorem zv4 (f : FuncId) (c1 : Value) (pre : World -> Prop) (hpre : Up pre) (φ : Tm -> Int -> Option (Option Tm))
  (hφ : ∀ (t : TT) (d : Int), tmB t.tm -> zav Tryd.prog f [ttA t, .one (.v (.int .i64 d)), .one (.v c1)] [] 0 (fun w => pre w /\ TTIn w t) (ze5 (φ t.tm d)) (zb7 (φ t.tm d))) (t : TT) (hB : tmB t.tm) :
  zav Tryd.prog 79 [ttA t, .one (.fn f [] [.v c1])] [] 0 (fun w => (ML w /\ pre w) /\ TTIn w t) (ze5 (some (ze6 φ t.tm))) (zb7 (some (ze6 φ t.tm))) := by
 have hr := zb4 t
 have hw := zvp f c1 pre hpre φ hφ t 0 3000 hB
 have hspec := show ze6 φ t.tm = _ by rw [ze6]
 obtain ⟨R, hR⟩ : ∃ R, ze6 φ t.tm = R := ⟨_, rfl⟩
 rw [hR] at hspec ⊢
 obtain ⟨b1, hb1⟩ : ∃ b, zbe t.tm = b := ⟨_, rfl⟩
 rw [hb1] at hspec
 rw [show zbm 4 1099511627776 t.tm = b1 from hb1] at hr
 obtain ⟨W, hW⟩ : ∃ W, zdj φ t.tm 0 3000 = W := ⟨_, rfl⟩
 rw [hW] at hspec hw
 clear hR hb1 hW
 obtain ⟨k, n, s, la, lc, ls, aa, ac, us⟩ := t
 have hn1 := zgx b1
 refine zt0 ((ML.up.and hpre).and (TTIn.upS _)) _ _ fun c2 hc2 => ?_
 cases hc2
 cases b1 with
 | false =>
  have hspec : R = none := hspec
  subst hspec
  refine zaf zac [] _ _ _ ?_
  refine zae hr (fun _ => rfl) (fun w h => ⟨h.1.1.1, h.1.2⟩) ?_
  rintro r rfl
  refine zab [] hn1 rfl trivial rfl rfl (fun _ _ => trivial) (fun _ _ => ⟨rfl, rfl⟩) (fun _ _ => ?_)
  exact ⟨rfl, zab [1, 2] (zbv _ _ _ _ _ false) rfl ⟨rfl, rfl, trivial⟩ rfl rfl (fun _ _ => trivial) (fun _ _ => ⟨rfl, rfl⟩) (fun _ _ => ⟨_, rfl, zba 0 0 ⟨#[]⟩, trivial, rfl, zaa [] rfl rfl rfl rfl (Nat.zero_le _) ⟨⟨_, rfl, rfl⟩, trivial⟩ trivial ⟨⟨Up.true, fun _ _ => trivial⟩, trivial⟩⟩)⟩
 | true =>
 have hspec : R = zy5 W := hspec
 refine zaf zac [] _ _ _ ?_
 refine zae hr (fun _ => rfl) (fun w h => ⟨h.1.1.1, h.1.2⟩) ?_
 rintro r rfl
 refine zab [] hn1 rfl trivial rfl rfl (fun _ _ => trivial) (fun _ _ => ⟨rfl, rfl⟩) (fun _ _ => ?_)
 cases W with
 | none =>
  have hspec : R = none := hspec
  subst hspec
  refine zab [3] hw rfl ⟨rfl, trivial⟩ rfl rfl (fun w h => ⟨h.2.2.1.1.2, h.2.2.1.2⟩) (fun _ _ => ⟨rfl, rfl⟩) (fun _ _ => ?_)
  exact ⟨rfl, zab [1, 2] (zbv _ _ _ _ _ false) rfl ⟨rfl, rfl, trivial⟩ rfl rfl (fun _ _ => trivial) (fun _ _ => ⟨rfl, rfl⟩) (fun _ _ => ⟨_, rfl, zba 0 0 ⟨#[]⟩, trivial, rfl, zaa [] rfl rfl rfl rfl (Nat.zero_le _) ⟨⟨_, rfl, rfl⟩, trivial⟩ trivial ⟨⟨Up.true, fun _ _ => trivial⟩, trivial⟩⟩)⟩
 | some q =>
 obtain ⟨x0, l2⟩ := q
 have hspec : R = zrl x0 (zbe x0) := hspec
 refine zab [3] hw rfl ⟨rfl, trivial⟩ rfl rfl (fun w h => ⟨h.2.2.1.1.2, h.2.2.1.2⟩) (fun x _ => ?_) (fun x hx => ?_)
 ·obtain ⟨xk, xn, xnm, xla, xlc, xls, xaa, xac, xus⟩ := x
  exact ⟨rfl, rfl⟩
 have hx : x.tm = x0 := hx
 have hr2 := zb4 x
 obtain ⟨b2, hb2⟩ : ∃ b, zbe x0 = b := ⟨_, rfl⟩
 rw [hx, show zbm 4 1099511627776 x0 = b2 from hb2] at hr2
 rw [hb2] at hspec
 have hn2 := zgx b2
 obtain ⟨xk, xn, xnm, xla, xlc, xls, xaa, xac, xus⟩ := x
 refine zae hr2 (fun _ => rfl) (fun w h => ⟨h.2.2.2.1.1.1, h.1⟩) ?_
 rintro r rfl
 cases b2 with
 | false =>
  have hspec : R = none := hspec
  subst hspec
  refine zab [] hn2 rfl trivial rfl rfl (fun _ _ => trivial) (fun _ _ => ⟨rfl, rfl⟩) (fun _ _ => ?_)
  exact ⟨rfl, zab [1, 2] (zbv _ _ _ _ _ false) rfl ⟨rfl, rfl, trivial⟩ rfl rfl (fun _ _ => trivial) (fun _ _ => ⟨rfl, rfl⟩) (fun _ _ => ⟨_, rfl, zba 0 0 ⟨#[]⟩, trivial, rfl, zaa [] rfl rfl rfl rfl (Nat.zero_le _) ⟨⟨_, rfl, rfl⟩, trivial⟩ trivial ⟨⟨Up.true, fun _ _ => trivial⟩, trivial⟩⟩)⟩
 | true =>
 have hspec : R = some x0 := hspec
 subst hspec
 refine zab [] hn2 rfl trivial rfl rfl (fun _ _ => trivial) (fun _ _ => ⟨rfl, rfl⟩) (fun _ _ => ?_)
 refine zab [1, 2] (zgy _ _ _ _ _ true) rfl ⟨rfl, rfl, trivial⟩ rfl rfl (fun _ _ => trivial) (fun _ _ => ⟨rfl, rfl⟩) (fun _ _ => ?_)
 refine ⟨_, rfl, TT.mk xk xn xnm xla xlc xls xaa xac xus, hx, rfl, ?_⟩
 exact zaa [] rfl rfl rfl rfl (Nat.zero_le _) ⟨⟨_, rfl, rfl⟩, trivial⟩ trivial ⟨⟨TTIn.upS _, fun w h => h.2.2.2.1⟩, trivial⟩
end Go.Proofs.YtmkpiekbpakigaaDoor
end
section
set_option linter.unusedVariables false
set_option linter.unusedSimpArgs false
namespace Go.Proofs.YtmkpiekbpakigaaDoor
open Go.RowKit Go.Proofs.Base Go.Proofs.Sym
theorem zfj {w : World} {g3 g2 : Nat} {by' fr : Int} (h3 : SlAt w (some ⟨g3, 0, none⟩) [.int .i64 fr]) (h2 : SlAt w (some ⟨g2, 0, none⟩) [.int .i64 by']) : zfk ⟨g3, 0, none⟩ ⟨g2, 0, none⟩ by' fr w := by
 obtain ⟨a, ha, hc⟩ := h3 0 _ rfl
 obtain ⟨b, hb, hd⟩ := h2 0 _ rfl
 cases ha
 cases hb
 exact ⟨hc, hd⟩
def zp3 (by' fr : Int) : Bool := ((decide (by' < -1099511627776) || decide (1099511627776 < by')) || decide (fr < 0)) || decide (1099511627776 < fr)
def zgd (o : Option Tm) : Bool -> Option Tm
 | true => none
 | false => o
def zi3 (by' fr : Int) (t : Tm) : Option Tm := zgd (ze6 (zc5 by' fr) t) (zp3 by' fr)
set_option maxHeartbeats 4000000 in
theorem zqs (t : TT) (by' fr : Int) (hB : tmB t.tm) : zav Tryd.prog 39 [ttA t, .one (.v (.int .i64 by')), .one (.v (.int .i64 fr))] [] 0 (fun w => ML w /\ TTIn w t) (ze5 (some (zi3 by' fr t.tm))) (zb7 (some (zi3 by' fr t.tm))) := by
 have hmade := fun a1 a2 => zlp 126 (.pointer (some a1)) (.pointer (some a2)) (zfk a1 a2 by' fr) (zfk.up _ _ _ _) (zc5 by' fr) (fun t d _ => zjf a1 a2 by' fr t d) t hB
 have hspec := show zi3 by' fr t.tm = _ by rw [zi3]
 obtain ⟨R, hR⟩ : ∃ R, zi3 by' fr t.tm = R := ⟨_, rfl⟩
 rw [hR] at hspec ⊢
 obtain ⟨o, ho⟩ : ∃ o, ze6 (zc5 by' fr) t.tm = o := ⟨_, rfl⟩
 rw [ho] at hspec hmade
 clear hR ho hB
 have hs : ∀ b1 b2 b3 b4, decide (by' < -1099511627776) = b1 -> decide (1099511627776 < by') = b2 -> decide (fr < 0) = b3 -> decide (1099511627776 < fr) = b4 -> R = zgd o (((b1 || b2) || b3) || b4) := by
  intro b1 b2 b3 b4 e1 e2 e3 e4
  rw [hspec, zp3, e1, e2, e3, e4]
 clear hspec
 obtain ⟨k, n, s, la, lc, ls, aa, ac, us⟩ := t
 refine zas zac 30 [.cell 6 41, .tmp 7] Tryd.func39 rfl rfl (by kernel_rfl) rfl _ (leB rfl) (ML.up.and (TTIn.upS _)) ?_
 refine zaf zac [3] _ _ _ ?_
 refine zad (fun h => ?_) (fun h => ?_)
 ·have h : decide (by' < -1099511627776) = true := h
  have e : R = none := (hs _ _ _ _ h rfl rfl rfl).trans (by simp [zgd])
  subst e
  exact ⟨_, rfl, zba 0 0 ⟨#[]⟩, trivial, rfl, zaa [] rfl rfl rfl rfl (Nat.zero_le _) ⟨⟨_, rfl, rfl⟩, trivial⟩ trivial ⟨⟨Up.true, fun _ _ => trivial⟩, trivial⟩⟩
 have h1 : decide (by' < -1099511627776) = false := h
 refine zad (fun h => ?_) (fun h => ?_)
 ·have h : decide (1099511627776 < by') = true := h
  have e : R = none := (hs _ _ _ _ h1 h rfl rfl).trans (by simp [zgd])
  subst e
  exact ⟨_, rfl, zba 0 0 ⟨#[]⟩, trivial, rfl, zaa [] rfl rfl rfl rfl (Nat.zero_le _) ⟨⟨_, rfl, rfl⟩, trivial⟩ trivial ⟨⟨Up.true, fun _ _ => trivial⟩, trivial⟩⟩
 have h2 : decide (1099511627776 < by') = false := h
 refine zad (fun h => ?_) (fun h => ?_)
 ·have h : decide (fr < 0) = true := h
  have e : R = none := (hs _ _ _ _ h1 h2 h rfl).trans (by simp [zgd])
  subst e
  exact ⟨_, rfl, zba 0 0 ⟨#[]⟩, trivial, rfl, zaa [] rfl rfl rfl rfl (Nat.zero_le _) ⟨⟨_, rfl, rfl⟩, trivial⟩ trivial ⟨⟨Up.true, fun _ _ => trivial⟩, trivial⟩⟩
 have h3 : decide (fr < 0) = false := h
 refine zad (fun h => ?_) (fun h => ?_)
 ·have h : decide (1099511627776 < fr) = true := h
  have e : R = none := (hs _ _ _ _ h1 h2 h3 h).trans (by simp [zgd])
  subst e
  exact ⟨_, rfl, zba 0 0 ⟨#[]⟩, trivial, rfl, zaa [] rfl rfl rfl rfl (Nat.zero_le _) ⟨⟨_, rfl, rfl⟩, trivial⟩ trivial ⟨⟨Up.true, fun _ _ => trivial⟩, trivial⟩⟩
 have h4 : decide (1099511627776 < fr) = false := h
 have e : R = o := hs _ _ _ _ h1 h2 h3 h4
 subst e
 clear hs h1 h2 h3 h4
 refine zai.ent (st' := { s := [(3, .one (.p 0 0)), (1, .one (.v (.int .i64 by'))), (2, .one (.v (.int .i64 fr))), (6, .one (.p 1 0)), (7, .one (.v (.bool false)))], m := [(0, .cells 41 ((TT.mk k n s la lc ls aa ac us).cells.map SA.v)), (1, .cells 41 zap)], k := 2, f := [fun w => ML w /\ TTIn w (TT.mk k n s la lc ls aa ac us)] }) (zaa [(0, .blk 0), (1, .blk 1)] rfl rfl rfl rfl (leB rfl) (rs rfl rfl) (rm rfl rfl) ⟨⟨ML.up.and (TTIn.upS _), fun w h => h.1⟩, trivial⟩) ?_
 cases R with
 | none =>
  refine zaf zac [] _ _ _ ?_
  let hS : List (Nat × SV) := [(3, .one (.p 0 0)), (1, .one (.v (.int .i64 by'))), (2, .one (.v (.int .i64 fr))), (6, .one (.p 1 0)), (7, .one (.v (.bool false)))]
  let hM : List (Nat × LB) := [(0, .cells 41 ((TT.mk k n s la lc ls aa ac us).cells.map SA.v)), (1, .cells 41 zap)]
  let hF : List (World -> Prop) := [fun w => ML w /\ TTIn w (TT.mk k n s la lc ls aa ac us)]
  let x3 : Nat × SV := (26, .one (.fn 126 [] [.p 3, .p 2]))
  let m3a : Nat × LB := (2, .cells 3 [.v (.int .i64 by')])
  let m3b : Nat × LB := (3, .cells 3 [.v (.int .i64 fr)])
  let f3 : World -> Prop := fun _ => True
  refine .inr ⟨[0, 0, 0, 6, 15, 31, 31, 127, 255], [3, 4, 5, 6, 7, 8], [(0, { dst := some 23, v := ttA (TT.mk k n s la lc ls aa ac us), p := none, f := none }), (1, { dst := some 24, v := .one (.v (.int .i64 by')), p := none, f := none }), (2, { dst := some 25, v := .one (.v (.int .i64 fr)), p := none, f := none })], by kernel_rfl, rfl, by kernel_rfl, by kernel_rfl, rfl, rfl, rfl, rfl, ?_⟩
  refine zam ({ s := hS, m := hM, k := 2, f := hF }) [3] rfl (by kernel_rfl) (by kernel_rfl) ⟨⟨rfl, rfl⟩, ⟨rfl, rfl⟩, ⟨rfl, rfl⟩, trivial⟩ ⟨?_, trivial⟩
  refine ⟨_, rfl, rfl, _, rfl, ?_⟩
  refine zab [] (zea by' fr) rfl trivial rfl rfl (fun _ _ => trivial) (fun _ _ => ⟨rfl, rfl⟩) (fun _ _ => ?_)
  refine zam ({ s := x3 :: hS, m := m3a :: m3b :: hM, k := 4, f := f3 :: hF }) [4] rfl (by kernel_rfl) (by kernel_rfl) ⟨⟨rfl, rfl⟩, ⟨rfl, trivial⟩, ⟨rfl, trivial⟩, trivial⟩ ⟨?_, trivial⟩
  refine ⟨_, rfl, rfl, _, rfl, ?_⟩
  refine zau 2 (vs := [.int .i64 by']) rfl rfl (fun g2 => ?_)
  refine zau 3 (vs := [.int .i64 fr]) rfl rfl (fun g3 => ?_)
  have hm := hmade ⟨g3, 0, none⟩ ⟨g2, 0, none⟩
  refine zab [] hm rfl trivial rfl rfl (fun w h => ⟨⟨h.2.2.2.1.1, zfj h.1 h.2.1⟩, h.2.2.2.1.2⟩) (fun _ _ => ⟨rfl, rfl⟩) (fun x _ => ?_)
  let x4 : Nat × SV := (27, .tup [.agg zap, .one (.v (.bool false))])
  let m4a : Nat × LB := (3, .dead)
  let m4b : Nat × LB := (2, .dead)
  let f4 : World -> Prop := fun _ => True
  let f4a : World -> Prop := fun w => SlAt w (some ⟨g3, 0, none⟩) [.int .i64 fr]
  let f4b : World -> Prop := fun w => SlAt w (some ⟨g2, 0, none⟩) [.int .i64 by']
  let x5 : Nat × SV := (28, .agg zap)
  let x6 : Nat × SV := (29, .one (.v (.bool false)))
  let m7a : Nat × LB := (1, .cells 41 zap)
  let x8 : Nat × SV := (7, .one (.v (.bool false)))
  refine zam ({ s := x4 :: x3 :: hS, m := m4a :: m4b :: m3a :: m3b :: hM, k := 4, f := f4 :: f4a :: f4b :: f3 :: hF }) [5, 6] rfl (by kernel_rfl) (by kernel_rfl) ⟨⟨rfl, trivial⟩, ⟨rfl, trivial⟩, ⟨rfl, trivial⟩, trivial⟩ ⟨?_, ?_, trivial⟩
  ·refine ⟨_, rfl, rfl, _, rfl, ?_⟩
   refine zam ({ s := x5 :: x4 :: x3 :: hS, m := m4a :: m4b :: m3a :: m3b :: hM, k := 4, f := f4 :: f4a :: f4b :: f3 :: hF }) [6] rfl (by kernel_rfl) (by kernel_rfl) ⟨⟨rfl, trivial⟩, ⟨rfl, trivial⟩, ⟨rfl, trivial⟩, trivial⟩ ⟨?_, trivial⟩
   refine ⟨_, rfl, rfl, _, rfl, ?_⟩
   refine zam ({ s := x6 :: x5 :: x4 :: x3 :: hS, m := m4a :: m4b :: m3a :: m3b :: hM, k := 4, f := f4 :: f4a :: f4b :: f3 :: hF }) [7] rfl (by kernel_rfl) (by kernel_rfl) ⟨⟨rfl, trivial⟩, ⟨rfl, trivial⟩, ⟨rfl, trivial⟩, trivial⟩ ⟨?_, trivial⟩
   refine ⟨_, rfl, rfl, _, rfl, ?_⟩
   refine zam ({ s := x6 :: x5 :: x4 :: x3 :: hS, m := m7a :: m4a :: m4b :: m3a :: m3b :: hM, k := 4, f := f4 :: f4a :: f4b :: f3 :: hF }) [8] rfl (by kernel_rfl) (by kernel_rfl) ⟨⟨rfl, trivial⟩, ⟨rfl, trivial⟩, ⟨rfl, trivial⟩, trivial⟩ ⟨?_, trivial⟩
   refine ⟨_, rfl, rfl, _, rfl, ?_⟩
   refine zcm _ rfl (by kernel_rfl) ⟨⟨rfl, trivial⟩, ⟨rfl, trivial⟩, ⟨rfl, trivial⟩, trivial⟩ ?_
   exact ⟨_, rfl, x, trivial, rfl, zaa [] rfl rfl rfl rfl (Nat.zero_le _) ⟨⟨_, rfl, rfl⟩, trivial⟩ trivial ⟨⟨Up.true, fun _ _ => trivial⟩, trivial⟩⟩
  ·refine ⟨_, rfl, rfl, _, rfl, ?_⟩
   refine zam ({ s := x6 :: x4 :: x3 :: hS, m := m4a :: m4b :: m3a :: m3b :: hM, k := 4, f := f4 :: f4a :: f4b :: f3 :: hF }) [5] rfl (by kernel_rfl) (by kernel_rfl) ⟨⟨rfl, trivial⟩, ⟨rfl, trivial⟩, ⟨rfl, trivial⟩, trivial⟩ ⟨?_, trivial⟩
   refine ⟨_, rfl, rfl, _, rfl, ?_⟩
   refine zam ({ s := x5 :: x6 :: x4 :: x3 :: hS, m := m4a :: m4b :: m3a :: m3b :: hM, k := 4, f := f4 :: f4a :: f4b :: f3 :: hF }) [7] rfl (by kernel_rfl) (by kernel_rfl) ⟨⟨rfl, trivial⟩, ⟨rfl, trivial⟩, ⟨rfl, trivial⟩, trivial⟩ ⟨?_, trivial⟩
   refine ⟨_, rfl, rfl, _, rfl, ?_⟩
   refine zam ({ s := x5 :: x6 :: x4 :: x3 :: hS, m := m7a :: m4a :: m4b :: m3a :: m3b :: hM, k := 4, f := f4 :: f4a :: f4b :: f3 :: hF }) [8] rfl (by kernel_rfl) (by kernel_rfl) ⟨⟨rfl, trivial⟩, ⟨rfl, trivial⟩, ⟨rfl, trivial⟩, trivial⟩ ⟨?_, trivial⟩
   refine ⟨_, rfl, rfl, _, rfl, ?_⟩
   refine zcm _ rfl (by kernel_rfl) ⟨⟨rfl, trivial⟩, ⟨rfl, trivial⟩, ⟨rfl, trivial⟩, trivial⟩ ?_
   exact ⟨_, rfl, x, trivial, rfl, zaa [] rfl rfl rfl rfl (Nat.zero_le _) ⟨⟨_, rfl, rfl⟩, trivial⟩ trivial ⟨⟨Up.true, fun _ _ => trivial⟩, trivial⟩⟩
 | some x0 =>
  refine zaf zac [] _ _ _ ?_
  let hS : List (Nat × SV) := [(3, .one (.p 0 0)), (1, .one (.v (.int .i64 by'))), (2, .one (.v (.int .i64 fr))), (6, .one (.p 1 0)), (7, .one (.v (.bool false)))]
  let hM : List (Nat × LB) := [(0, .cells 41 ((TT.mk k n s la lc ls aa ac us).cells.map SA.v)), (1, .cells 41 zap)]
  let hF : List (World -> Prop) := [fun w => ML w /\ TTIn w (TT.mk k n s la lc ls aa ac us)]
  let x3 : Nat × SV := (26, .one (.fn 126 [] [.p 3, .p 2]))
  let m3a : Nat × LB := (2, .cells 3 [.v (.int .i64 by')])
  let m3b : Nat × LB := (3, .cells 3 [.v (.int .i64 fr)])
  let f3 : World -> Prop := fun _ => True
  refine .inr ⟨[0, 0, 0, 6, 15, 31, 31, 127, 255], [3, 4, 5, 6, 7, 8], [(0, { dst := some 23, v := ttA (TT.mk k n s la lc ls aa ac us), p := none, f := none }), (1, { dst := some 24, v := .one (.v (.int .i64 by')), p := none, f := none }), (2, { dst := some 25, v := .one (.v (.int .i64 fr)), p := none, f := none })], by kernel_rfl, rfl, by kernel_rfl, by kernel_rfl, rfl, rfl, rfl, rfl, ?_⟩
  refine zam ({ s := hS, m := hM, k := 2, f := hF }) [3] rfl (by kernel_rfl) (by kernel_rfl) ⟨⟨rfl, rfl⟩, ⟨rfl, rfl⟩, ⟨rfl, rfl⟩, trivial⟩ ⟨?_, trivial⟩
  refine ⟨_, rfl, rfl, _, rfl, ?_⟩
  refine zab [] (zea by' fr) rfl trivial rfl rfl (fun _ _ => trivial) (fun _ _ => ⟨rfl, rfl⟩) (fun _ _ => ?_)
  refine zam ({ s := x3 :: hS, m := m3a :: m3b :: hM, k := 4, f := f3 :: hF }) [4] rfl (by kernel_rfl) (by kernel_rfl) ⟨⟨rfl, rfl⟩, ⟨rfl, trivial⟩, ⟨rfl, trivial⟩, trivial⟩ ⟨?_, trivial⟩
  refine ⟨_, rfl, rfl, _, rfl, ?_⟩
  refine zau 2 (vs := [.int .i64 by']) rfl rfl (fun g2 => ?_)
  refine zau 3 (vs := [.int .i64 fr]) rfl rfl (fun g3 => ?_)
  have hm := hmade ⟨g3, 0, none⟩ ⟨g2, 0, none⟩
  refine zab [] hm rfl trivial rfl rfl (fun w h => ⟨⟨h.2.2.2.1.1, zfj h.1 h.2.1⟩, h.2.2.2.1.2⟩) (fun x _ => ?_) (fun x hx => ?_)
  ·obtain ⟨vk, vn, vnm, vla, vlc, vls, vaa, vac, vus⟩ := x
   exact ⟨rfl, rfl⟩
  obtain ⟨vk, vn, vnm, vla, vlc, vls, vaa, vac, vus⟩ := x
  let x4 : Nat × SV := (27, .tup [.agg ((TT.mk vk vn vnm vla vlc vls vaa vac vus).cells.map SA.v), .one (.v (.bool true))])
  let m4a : Nat × LB := (3, .dead)
  let m4b : Nat × LB := (2, .dead)
  let f4 : World -> Prop := fun w => TTIn w (TT.mk vk vn vnm vla vlc vls vaa vac vus)
  let f4a : World -> Prop := fun w => SlAt w (some ⟨g3, 0, none⟩) [.int .i64 fr]
  let f4b : World -> Prop := fun w => SlAt w (some ⟨g2, 0, none⟩) [.int .i64 by']
  let x5 : Nat × SV := (28, .agg ((TT.mk vk vn vnm vla vlc vls vaa vac vus).cells.map SA.v))
  let x6 : Nat × SV := (29, .one (.v (.bool true)))
  let m7a : Nat × LB := (1, .cells 41 ((TT.mk vk vn vnm vla vlc vls vaa vac vus).cells.map SA.v))
  let x8 : Nat × SV := (7, .one (.v (.bool true)))
  refine zam ({ s := x4 :: x3 :: hS, m := m4a :: m4b :: m3a :: m3b :: hM, k := 4, f := f4 :: f4a :: f4b :: f3 :: hF }) [5, 6] rfl (by kernel_rfl) (by kernel_rfl) ⟨⟨rfl, trivial⟩, ⟨rfl, trivial⟩, ⟨rfl, trivial⟩, trivial⟩ ⟨?_, ?_, trivial⟩
  ·refine ⟨_, rfl, rfl, _, rfl, ?_⟩
   refine zam ({ s := x5 :: x4 :: x3 :: hS, m := m4a :: m4b :: m3a :: m3b :: hM, k := 4, f := f4 :: f4a :: f4b :: f3 :: hF }) [6] rfl (by kernel_rfl) (by kernel_rfl) ⟨⟨rfl, trivial⟩, ⟨rfl, trivial⟩, ⟨rfl, trivial⟩, trivial⟩ ⟨?_, trivial⟩
   refine ⟨_, rfl, rfl, _, rfl, ?_⟩
   refine zam ({ s := x6 :: x5 :: x4 :: x3 :: hS, m := m4a :: m4b :: m3a :: m3b :: hM, k := 4, f := f4 :: f4a :: f4b :: f3 :: hF }) [7] rfl (by kernel_rfl) (by kernel_rfl) ⟨⟨rfl, trivial⟩, ⟨rfl, trivial⟩, ⟨rfl, trivial⟩, trivial⟩ ⟨?_, trivial⟩
   refine ⟨_, rfl, rfl, _, rfl, ?_⟩
   refine zam ({ s := x6 :: x5 :: x4 :: x3 :: hS, m := m7a :: m4a :: m4b :: m3a :: m3b :: hM, k := 4, f := f4 :: f4a :: f4b :: f3 :: hF }) [8] rfl (by kernel_rfl) (by kernel_rfl) ⟨⟨rfl, trivial⟩, ⟨rfl, trivial⟩, ⟨rfl, trivial⟩, trivial⟩ ⟨?_, trivial⟩
   refine ⟨_, rfl, rfl, _, rfl, ?_⟩
   refine zcm _ rfl (by kernel_rfl) ⟨⟨rfl, trivial⟩, ⟨rfl, trivial⟩, ⟨rfl, trivial⟩, trivial⟩ ?_
   exact ⟨_, rfl, (TT.mk vk vn vnm vla vlc vls vaa vac vus), hx, rfl, zaa [] rfl rfl rfl rfl (Nat.zero_le _) ⟨⟨_, rfl, rfl⟩, trivial⟩ trivial ⟨⟨TTIn.upS _, fun w h => h.1⟩, trivial⟩⟩
  ·refine ⟨_, rfl, rfl, _, rfl, ?_⟩
   refine zam ({ s := x6 :: x4 :: x3 :: hS, m := m4a :: m4b :: m3a :: m3b :: hM, k := 4, f := f4 :: f4a :: f4b :: f3 :: hF }) [5] rfl (by kernel_rfl) (by kernel_rfl) ⟨⟨rfl, trivial⟩, ⟨rfl, trivial⟩, ⟨rfl, trivial⟩, trivial⟩ ⟨?_, trivial⟩
   refine ⟨_, rfl, rfl, _, rfl, ?_⟩
   refine zam ({ s := x5 :: x6 :: x4 :: x3 :: hS, m := m4a :: m4b :: m3a :: m3b :: hM, k := 4, f := f4 :: f4a :: f4b :: f3 :: hF }) [7] rfl (by kernel_rfl) (by kernel_rfl) ⟨⟨rfl, trivial⟩, ⟨rfl, trivial⟩, ⟨rfl, trivial⟩, trivial⟩ ⟨?_, trivial⟩
   refine ⟨_, rfl, rfl, _, rfl, ?_⟩
   refine zam ({ s := x5 :: x6 :: x4 :: x3 :: hS, m := m7a :: m4a :: m4b :: m3a :: m3b :: hM, k := 4, f := f4 :: f4a :: f4b :: f3 :: hF }) [8] rfl (by kernel_rfl) (by kernel_rfl) ⟨⟨rfl, trivial⟩, ⟨rfl, trivial⟩, ⟨rfl, trivial⟩, trivial⟩ ⟨?_, trivial⟩
   refine ⟨_, rfl, rfl, _, rfl, ?_⟩
   refine zcm _ rfl (by kernel_rfl) ⟨⟨rfl, trivial⟩, ⟨rfl, trivial⟩, ⟨rfl, trivial⟩, trivial⟩ ?_
   exact ⟨_, rfl, (TT.mk vk vn vnm vla vlc vls vaa vac vus), hx, rfl, zaa [] rfl rfl rfl rfl (Nat.zero_le _) ⟨⟨_, rfl, rfl⟩, trivial⟩ trivial ⟨⟨TTIn.upS _, fun w h => h.1⟩, trivial⟩⟩
def zaby (o : Option (Tm × Int)) (x : TT) : LRes := match o with
 | none => { m := [], k := 0, ch := some znm }
 | some _ => { v := ttA x, m := [], k := 0, F := fun w => TTIn w x }
set_option maxHeartbeats 4000000 in
theorem zze (t : TT) (d : Int) (hB : tmB t.tm) : zav Tryd.prog 85 [ttA t, .one (.v (.int .i64 d))] [] 0 (fun w => TTIn w t) (zy0 (zdj (zc5 d 0) t.tm 0 3000)) (zaby (zdj (zc5 d 0) t.tm 0 3000)) := by
 have hwalk := fun a1 a2 => zpq 126 (.pointer (some a1)) (.pointer (some a2)) (zfk a1 a2 d 0) (zfk.up _ _ _ _) (zc5 d 0) (fun t e _ => zjf a1 a2 d 0 t e) t 0 3000 hB
 obtain ⟨o, ho⟩ : ∃ o, zdj (zc5 d 0) t.tm 0 3000 = o := ⟨_, rfl⟩
 rw [ho] at hwalk ⊢
 clear ho hB
 obtain ⟨k, n, s, la, lc, ls, aa, ac, us⟩ := t
 refine zas zac 10 [.cell 4 41] Tryd.func85 rfl rfl (by kernel_rfl) rfl _ (leB rfl) (TTIn.upS _) ?_
 refine zaf zac [2] _ _ _ ?_
 refine zai.ent (st' := { s := [(2, .one (.p 0 0)), (1, .one (.v (.int .i64 d))), (4, .one (.p 1 0)), (5, .one (.p 2 0))], m := [(0, .cells 41 ((TT.mk k n s la lc ls aa ac us).cells.map SA.v)), (1, .cells 41 zap), (2, .cells 3 [.v (.int .i64 3000)])], k := 3, f := [fun w => TTIn w (TT.mk k n s la lc ls aa ac us)] }) (zaa [(0, .blk 0), (1, .blk 1), (2, .blk 2)] rfl rfl rfl rfl (leB rfl) (rs rfl rfl) (rm rfl rfl) ⟨⟨TTIn.upS _, fun w h => h.1⟩, trivial⟩) ?_
 cases o with
 | none =>
  refine zaf zac [] _ _ _ ?_
  let hS : List (Nat × SV) := [(2, .one (.p 0 0)), (1, .one (.v (.int .i64 d))), (4, .one (.p 1 0)), (5, .one (.p 2 0))]
  let hM : List (Nat × LB) := [(0, .cells 41 ((TT.mk k n s la lc ls aa ac us).cells.map SA.v)), (1, .cells 41 zap), (2, .cells 3 [.v (.int .i64 3000)])]
  let hF : List (World -> Prop) := [fun w => TTIn w (TT.mk k n s la lc ls aa ac us)]
  let x2 : Nat × SV := (8, .one (.fn 126 [] [.p 4, .p 3]))
  let m2a : Nat × LB := (3, .cells 3 [.v (.int .i64 d)])
  let m2b : Nat × LB := (4, .cells 3 [.v (.int .i64 0)])
  let f2 : World -> Prop := fun _ => True
  refine .inr ⟨[0, 0, 2, 7, 15], [2, 3, 4], [(0, { dst := some 6, v := ttA (TT.mk k n s la lc ls aa ac us), p := none, f := none }), (1, { dst := some 7, v := .one (.v (.int .i64 d)), p := none, f := none })], by kernel_rfl, rfl, by kernel_rfl, by kernel_rfl, rfl, rfl, rfl, rfl, ?_⟩
  refine zam ({ s := hS, m := hM, k := 3, f := hF }) [2] rfl (by kernel_rfl) (by kernel_rfl) ⟨⟨rfl, rfl⟩, ⟨rfl, rfl⟩, trivial⟩ ⟨?_, trivial⟩
  refine ⟨_, rfl, rfl, _, rfl, ?_⟩
  refine zab [] (zea d 0) rfl trivial rfl rfl (fun _ _ => trivial) (fun _ _ => ⟨rfl, rfl⟩) (fun _ _ => ?_)
  refine zam ({ s := x2 :: hS, m := m2a :: m2b :: hM, k := 5, f := f2 :: hF }) [3] rfl (by kernel_rfl) (by kernel_rfl) ⟨⟨rfl, rfl⟩, ⟨rfl, trivial⟩, trivial⟩ ⟨?_, trivial⟩
  refine ⟨_, rfl, rfl, _, rfl, ?_⟩
  refine zau 3 (vs := [.int .i64 d]) rfl rfl (fun g2 => ?_)
  refine zau 4 (vs := [.int .i64 0]) rfl rfl (fun g3 => ?_)
  have hm := hwalk ⟨g3, 0, none⟩ ⟨g2, 0, none⟩
  refine zab [2] hm rfl ⟨rfl, trivial⟩ rfl rfl (fun w h => ⟨zfj h.1 h.2.1, h.2.2.2.1⟩) (fun _ _ => ⟨rfl, rfl⟩) (fun x _ => ?_)
  exact ⟨zba 0 0 ⟨#[]⟩, trivial, rfl, zaa [] rfl rfl rfl rfl (Nat.zero_le _) ⟨⟨_, rfl, rfl⟩, trivial⟩ trivial ⟨⟨Up.true, fun _ _ => trivial⟩, trivial⟩⟩
 | some q =>
  obtain ⟨x0, l2⟩ := q
  refine zaf zac [] _ _ _ ?_
  let hS : List (Nat × SV) := [(2, .one (.p 0 0)), (1, .one (.v (.int .i64 d))), (4, .one (.p 1 0)), (5, .one (.p 2 0))]
  let hM : List (Nat × LB) := [(0, .cells 41 ((TT.mk k n s la lc ls aa ac us).cells.map SA.v)), (1, .cells 41 zap), (2, .cells 3 [.v (.int .i64 3000)])]
  let hF : List (World -> Prop) := [fun w => TTIn w (TT.mk k n s la lc ls aa ac us)]
  let x2 : Nat × SV := (8, .one (.fn 126 [] [.p 4, .p 3]))
  let m2a : Nat × LB := (3, .cells 3 [.v (.int .i64 d)])
  let m2b : Nat × LB := (4, .cells 3 [.v (.int .i64 0)])
  let f2 : World -> Prop := fun _ => True
  refine .inr ⟨[0, 0, 2, 7, 15], [2, 3, 4], [(0, { dst := some 6, v := ttA (TT.mk k n s la lc ls aa ac us), p := none, f := none }), (1, { dst := some 7, v := .one (.v (.int .i64 d)), p := none, f := none })], by kernel_rfl, rfl, by kernel_rfl, by kernel_rfl, rfl, rfl, rfl, rfl, ?_⟩
  refine zam ({ s := hS, m := hM, k := 3, f := hF }) [2] rfl (by kernel_rfl) (by kernel_rfl) ⟨⟨rfl, rfl⟩, ⟨rfl, rfl⟩, trivial⟩ ⟨?_, trivial⟩
  refine ⟨_, rfl, rfl, _, rfl, ?_⟩
  refine zab [] (zea d 0) rfl trivial rfl rfl (fun _ _ => trivial) (fun _ _ => ⟨rfl, rfl⟩) (fun _ _ => ?_)
  refine zam ({ s := x2 :: hS, m := m2a :: m2b :: hM, k := 5, f := f2 :: hF }) [3] rfl (by kernel_rfl) (by kernel_rfl) ⟨⟨rfl, rfl⟩, ⟨rfl, trivial⟩, trivial⟩ ⟨?_, trivial⟩
  refine ⟨_, rfl, rfl, _, rfl, ?_⟩
  refine zau 3 (vs := [.int .i64 d]) rfl rfl (fun g2 => ?_)
  refine zau 4 (vs := [.int .i64 0]) rfl rfl (fun g3 => ?_)
  have hm := hwalk ⟨g3, 0, none⟩ ⟨g2, 0, none⟩
  refine zab [2] hm rfl ⟨rfl, trivial⟩ rfl rfl (fun w h => ⟨zfj h.1 h.2.1, h.2.2.2.1⟩) (fun x _ => ?_) (fun x hx => ?_)
  ·obtain ⟨vk, vn, vnm, vla, vlc, vls, vaa, vac, vus⟩ := x
   exact ⟨rfl, rfl⟩
  obtain ⟨vk, vn, vnm, vla, vlc, vls, vaa, vac, vus⟩ := x
  let x3 : Nat × SV := (9, ttA (TT.mk vk vn vnm vla vlc vls vaa vac vus))
  let m3a : Nat × LB := (2, .cells 3 [.v (.int .i64 l2)])
  let m3b : Nat × LB := (2, .dead)
  let m3c : Nat × LB := (4, .dead)
  let m3d : Nat × LB := (3, .dead)
  let f3 : World -> Prop := fun w => TTIn w (TT.mk vk vn vnm vla vlc vls vaa vac vus)
  let f3a : World -> Prop := fun w => SlAt w (some ⟨g3, 0, none⟩) [.int .i64 0]
  let f3b : World -> Prop := fun w => SlAt w (some ⟨g2, 0, none⟩) [.int .i64 d]
  let m4a : Nat × LB := (1, .cells 41 ((TT.mk vk vn vnm vla vlc vls vaa vac vus).cells.map SA.v))
  refine zam ({ s := x3 :: x2 :: hS, m := m3a :: m3b :: m3c :: m3d :: m2a :: m2b :: hM, k := 5, f := f3 :: f3a :: f3b :: f2 :: hF }) [4] rfl (by kernel_rfl) (by kernel_rfl) ⟨⟨rfl, trivial⟩, ⟨rfl, trivial⟩, trivial⟩ ⟨?_, trivial⟩
  refine ⟨_, rfl, rfl, _, rfl, ?_⟩
  refine zcm _ rfl (by kernel_rfl) ⟨⟨rfl, trivial⟩, ⟨rfl, trivial⟩, trivial⟩ ?_
  exact ⟨_, rfl, (TT.mk vk vn vnm vla vlc vls vaa vac vus), hx, rfl, zaa [] rfl rfl rfl rfl (Nat.zero_le _) ⟨⟨_, rfl, rfl⟩, trivial⟩ trivial ⟨⟨TTIn.upS _, fun w h => h.1⟩, trivial⟩⟩
end Go.Proofs.YtmkpiekbpakigaaDoor
end
section
set_option linter.unusedVariables false
set_option linter.unusedSimpArgs false
namespace Go.Proofs.YtmkpiekbpakigaaDoor
open Go.RowKit Go.Proofs.Base Go.Proofs.Sym
theorem ziy {P : Program} {f : FuncId} {args : List SV} {st : St} {K : SV -> St -> Prop} {X : List PanicEntry -> St -> Prop} (i : Nat) {t : TypeId} {cs : List SA} {vs : List Value} (hi : get i st.m = some (.cells t cs)) (hp : ∀ e, reals e cs = vs)
  (h : ∀ g, zce P f (args.map (sbV (blkA i g))) (sbSt (blkA i g) i (fun w => SlAt w (some ⟨g, 0, none⟩) vs) st) K X) : zce P f args st K X := by
 refine zfd i fun cx e w hm => ⟨_, _, zet rfl, h (e.blk i), hm.spell hi (zet rfl) (SlAt.up _ _) ?_⟩
 intro j u hj
 have hb := zb5 (H := fun g => cx.H g \/ ∃ j, j ≠ i /\ At e st.m j g) (hm.cells i t cs hi) (hm.others ⟨_, hi, rfl⟩)
 refine ⟨_, rfl, ?_⟩
 rw [zbl, cell_of_row _ (e.blk i) (0 + j) _ _ _ hb, hp e]
 simpa using hj
structure TsIn (w : World) (A : Option Addr) (c : Nat) (us : List TT) : Prop where
 tts : TTs w A 0 us
 nil : A = none -> us.length = 0 /\ c = 0
 le : us.length <= c
 max : c <= maxLen
theorem TsIn.up (A : Option Addr) (c : Nat) (us : List TT) : Up fun w => TsIn w A c us := fun w w' h hb => ⟨TTs.up h A 0 us hb.tts, hb.nil, hb.le, hb.max⟩
theorem TsIn.arg {w : World} {A : Option Addr} {c : Nat} {us : List TT} (h : TsIn w A c us) {j : Nat} {t : TT} (hj : us[j]? = some t) :
  (∃ a, A = some a /\ ∀ l u, t.cells[l]? = some u -> w.cell? ((a.add (j * 5)).add l) = some u) /\ TTIn w t := by
 have := TTs.get h.tts hj
 rwa [Nat.zero_add] at this
def tIdx : List Tm -> Int -> Int
 | [], _ => -1
 | t :: r, j => match zbe t with
  | false => j
  | true => tIdx r (j + 1)
theorem zqn : ∀ (us : List Tm) (j : Int), 0 <= j -> decide (0 <= tIdx us j) = us.any fun u => !zbe u
 | [], _, _ => rfl
 | t :: r, j, h => by
  rw [tIdx, List.any_cons]
  cases zbe t with
  | false => simpa using h
  | true => simpa using zqn r (j + 1) (by omega)
def tsP (A : Option Addr) (c : Nat) (us : List TT) (w : World) : Prop := ML w /\ TsIn w A c us
theorem tsP.up (A : Option Addr) (c : Nat) (us : List TT) : Up (tsP A c us) := ML.up.and (TsIn.up _ _ _)
theorem zu3 (A : Option Addr) (c : Nat) (us : List TT) : zav Tryd.prog 127 [.one (.v (.slice A us.length c)), .one (.fn 82 [] [])] [] 0 (tsP A c us) (fun _ : Unit => True) (fun _ => { v := .one (.v (.int .i64 (tIdx (us.map TT.tm) 0))), m := [], k := 0 }) := by
 refine zas zac 19 [.tmp 4] Tryd.func127 rfl rfl (by kernel_rfl) rfl _ (leB rfl) (tsP.up _ _ _) ?_
 refine zai.told (p := us.length <= 9223372036854775807) (fun w h => Nat.le_trans h.1.2.le (Nat.le_trans h.1.2.max (by decide))) (fun hl => ?_)
 refine zaf zac [] _ _ _ ?_
 refine ⟨⟨Nat, fun j => j <= us.length /\ tIdx ((us.map TT.tm).drop j) j = tIdx (us.map TT.tm) 0,
  fun j => { s := [(0, .one (.v (.slice A us.length c))), (1, .one (.fn 82 [] [])), (7, .one (.v (.int .i64 (us.length : Int)))), (8, .one (.v (.int .i64 (j : Int))))], m := [], k := 0, f := [tsP A c us] },
  fun j => us.length - j, ⟨0, ⟨Nat.zero_le _, rfl⟩, ?_⟩, ?_⟩⟩
 ·exact zaa [] rfl rfl rfl rfl (Nat.le_refl _) ⟨⟨_, rfl, rfl⟩, ⟨_, rfl, rfl⟩, ⟨_, rfl, rfl⟩, ⟨_, rfl, rfl⟩, trivial⟩ trivial ⟨⟨tsP.up _ _ _, fun w h => h.1⟩, trivial⟩
 rintro j ⟨hj, hA⟩
 refine zad (fun hlt => ?_) (fun hge => ?_)
 ·have hlt : j < us.length := by
   have h : decide ((j : Int) < (us.length : Int)) = true := hlt
   have := of_decide_eq_true h
   omega
  obtain ⟨u, hu⟩ : ∃ u, us[j]? = some u := ⟨_, List.getElem?_eq_getElem hlt⟩
  have h2 := zr2 u
  have hstep : tIdx (us.map TT.tm) 0 = match zbe u.tm with | false => (j : Int) | true => tIdx ((us.map TT.tm).drop (j + 1)) (j + 1) := by
   rw [<- hA, List.drop_eq_getElem_cons (by simpa using hlt), tIdx]
   simp [(List.getElem?_eq_some_iff.1 hu).2]
  obtain ⟨b, hb⟩ : ∃ b, zbe u.tm = b := ⟨_, rfl⟩
  rw [show zbm 4 1099511627776 u.tm = b from hb] at h2
  rw [hb] at hstep
  clear hb
  obtain ⟨uk, un, unm, ula, ulc, uls, uaa, uac, uus⟩ := u
  refine ⟨{ n := j }, ⟨rfl, hlt, fun w h => ?_⟩, ?_⟩
  ·obtain ⟨⟨a, ha, _⟩, _⟩ := h.1.2.arg hu
   rw [ha]; rfl
  refine ⟨{ cs := (TT.mk uk un unm ula ulc uls uaa uac uus).cells }, ⟨TT.cells_one (TT.mk uk un unm ula ulc uls uaa uac uus), rfl, fun w h => ?_⟩, ?_⟩
  ·obtain ⟨⟨a, ha, h3⟩, _⟩ := h.1.2.arg hu
   exact ⟨_, by rw [ha]; rfl, h3⟩
  refine zae h2 (fun _ => rfl) (fun w h => ⟨h.1.1, (h.1.2.arg hu).2⟩) ?_
  rintro r rfl
  cases b with
  | false =>
   have e : tIdx (us.map TT.tm) 0 = (j : Int) := hstep
   refine ⟨_, rfl, (), trivial, rfl, ?_⟩
   rw [e]
   exact zaa [] rfl rfl rfl rfl (Nat.le_refl _) ⟨⟨_, rfl, rfl⟩, trivial⟩ trivial ⟨⟨Up.true, fun _ _ => trivial⟩, trivial⟩
  | true =>
   refine ⟨j + 1, ⟨hlt, hstep.symm⟩, by simp only; omega, ?_⟩
   exact zaa [] rfl rfl rfl rfl (Nat.le_refl _) ⟨⟨_, rfl, rfl⟩, ⟨_, rfl, rfl⟩, ⟨_, rfl, rfl⟩, ⟨_, rfl, oneI (za9 (by omega) (by omega))⟩, trivial⟩ trivial ⟨⟨tsP.up _ _ _, fun w h => h.2.1⟩, trivial⟩
 ·have hge : us.length <= j := by
   have h : decide ((j : Int) < (us.length : Int)) = false := hge
   have := of_decide_eq_false h
   omega
  have hend : tIdx (us.map TT.tm) 0 = -1 := by
   rw [<- hA, List.drop_eq_nil_of_le (by simpa using hge)]
   rfl
  refine ⟨_, rfl, (), trivial, rfl, ?_⟩
  rw [hend]
  exact zaa [] rfl rfl rfl rfl (Nat.le_refl _) ⟨⟨_, rfl, rfl⟩, trivial⟩ trivial ⟨⟨Up.true, fun _ _ => trivial⟩, trivial⟩
theorem zv2 (A : Option Addr) (c : Nat) (us : List TT) : zav Tryd.prog 81 [.one (.v (.slice A us.length c)), .one (.fn 82 [] [])] [] 0 (tsP A c us) (fun _ : Unit => True) (fun _ => { v := .one (.v (.bool ((us.map TT.tm).any fun u => !zbe u))), m := [], k := 0 }) := by
 have h2 := zu3 A c us
 rw [<- zqn (us.map TT.tm) 0 (Int.le_refl _)]
 obtain ⟨x, hx⟩ : ∃ x, tIdx (us.map TT.tm) 0 = x := ⟨_, rfl⟩
 rw [hx] at h2 ⊢
 refine zas zac 9 [.tmp 4] Tryd.func81 rfl rfl (by kernel_rfl) rfl _ (leB rfl) (tsP.up _ _ _) ?_
 refine zaf zac [] _ _ _ ?_
 refine zab [] h2 rfl trivial rfl rfl (fun w h => h.1) (fun _ _ => ⟨rfl, rfl⟩) (fun _ _ => ?_)
 exact ⟨_, rfl, (), trivial, rfl, zaa [] rfl rfl rfl rfl (Nat.le_refl _) ⟨⟨_, rfl, rfl⟩, trivial⟩ trivial ⟨⟨Up.true, fun _ _ => trivial⟩, trivial⟩⟩
def zmq (m : Nat) : Tm -> Int -> Option (Option Tm)
 | .mk k n _ _ _, d => zp0 (some (some (.mk 1 (IntKind.i64.wrap (n - (m : Int))) ⟨#[]⟩ [] []))) (decide (k = 1) && !decide (IntKind.i64.wrap (n - d) < (m : Int)))
def zv0 (a1 : Addr) (A : Option Addr) (m c : Nat) (w : World) : Prop := w.cell? a1 = some (.slice A m c)
theorem zv0.up (a1 : Addr) (A : Option Addr) (m c : Nat) : Up (zv0 a1 A m c) := Up.cell _ _
theorem zuu (a1 : Addr) (A : Option Addr) (m c : Nat) (t : TT) (d : Int) : zav Tryd.prog 83 [ttA t, .one (.v (.int .i64 d)), .one (.v (.pointer (some a1)))] [] 0 (fun w => zv0 a1 A m c w /\ TTIn w t) (ze5 (zmq m t.tm d)) (zb7 (zmq m t.tm d)) := by
 obtain ⟨k, n, s, la, lc, ls, aa, ac, us⟩ := t
 have hspec : ∀ b1 b2, decide (k = 1) = b1 -> decide (IntKind.i64.wrap (n - d) < (m : Int)) = b2 -> zmq m (TT.mk k n s la lc ls aa ac us).tm d = zp0 (some (some (.mk 1 (IntKind.i64.wrap (n - (m : Int))) ⟨#[]⟩ [] []))) (b1 && !b2) := by
  intro b1 b2 e1 e2
  rw [zbs, zmq, e1, e2]
 obtain ⟨R, hR⟩ : ∃ R, zmq m (TT.mk k n s la lc ls aa ac us).tm d = R := ⟨_, rfl⟩
 rw [hR] at hspec ⊢
 clear hR
 refine zas zac 26 [.cell 5 41, .tmp 6] Tryd.func83 rfl rfl (by kernel_rfl) rfl _ (leB rfl) ((zv0.up _ _ _ _).and (TTIn.upS _)) ?_
 refine zaf zac [3] _ _ _ ?_
 refine zad (fun h => ?_) (fun h => ?_)
 ·have h1 : decide (k = 1) = false := by
   have h : (!decide (k = 1)) = true := h
   simpa using h
  have e := hspec _ _ h1 rfl
  subst e
  refine ⟨_, rfl, zba 0 0 ⟨#[]⟩, trivial, rfl, ?_⟩
  exact zaa [] rfl rfl rfl rfl (Nat.zero_le _) ⟨⟨_, rfl, rfl⟩, trivial⟩ trivial ⟨⟨Up.true, fun _ _ => trivial⟩, trivial⟩
 have h1 : decide (k = 1) = true := by
  have h : (!decide (k = 1)) = false := h
  simpa using h
 refine ⟨{ v := .slice A m c }, fun w h => ⟨_, rfl, h.1.1⟩, ?_⟩
 refine zad (fun h => ?_) (fun h => ?_)
 ·have h2 : decide (IntKind.i64.wrap (n - d) < (m : Int)) = true := h
  have e := hspec _ _ h1 h2
  subst e
  refine ⟨_, rfl, zba 0 0 ⟨#[]⟩, trivial, rfl, ?_⟩
  exact zaa [] rfl rfl rfl rfl (Nat.zero_le _) ⟨⟨_, rfl, rfl⟩, trivial⟩ trivial ⟨⟨Up.true, fun _ _ => trivial⟩, trivial⟩
 have h2 : decide (IntKind.i64.wrap (n - d) < (m : Int)) = false := h
 have e := hspec _ _ h1 h2
 subst e
 refine zaf zac [] _ _ _ ?_
 refine ⟨{ v := .slice A m c }, fun w h => ⟨_, rfl, h.1.1⟩, ?_⟩
 refine ⟨_, rfl, zba 1 (IntKind.i64.wrap (n - (m : Int))) ⟨#[]⟩, ?_, rfl, ?_⟩
 ·show (zba 1 (IntKind.i64.wrap (n - (m : Int))) ⟨#[]⟩).tm = _
  unfold zba
  rw [zbs]
  rfl
 exact zaa [] rfl rfl rfl rfl (Nat.zero_le _) ⟨⟨_, rfl, rfl⟩, trivial⟩ trivial ⟨⟨TTIn.upS _, fun w h => zeo w (by unfold I64; omega) (zih _) (by decide)⟩, trivial⟩
end Go.Proofs.YtmkpiekbpakigaaDoor
end
section
set_option linter.unusedVariables false
set_option linter.unusedSimpArgs false
namespace Go.Proofs.YtmkpiekbpakigaaDoor
open Go.RowKit Go.Proofs.Base Go.Proofs.Sym
def upO : Option (Tm × Int) -> Option (Option Tm)
 | none => none
 | some (u, _) => some (some u)
def zrp (x y : Option (Option Tm)) : Bool -> Option (Option Tm)
 | true => x
 | false => y
def zsj (args : List Tm) (i : Nat) (d : Int) : Option (Option Tm) := match args[i]? with
 | some a => upO (zdj (zc5 d 0) a 0 3000)
 | none => some none
def putR (args : List Tm) : Tm -> Int -> Option (Option Tm)
 | .mk k n s ls us, d => zrp (zsj args (args.length - 1 - (IntKind.i64.wrap (n - d)).toNat) d) (zmq args.length (.mk k n s ls us) d) (decide (k = 1) && (decide (0 <= IntKind.i64.wrap (n - d)) && decide (IntKind.i64.wrap (n - d) < (args.length : Int))))
structure putP (a1 a2 : Addr) (A : Option Addr) (c : Nat) (us : List TT) (w : World) : Prop where
 h1 : w.cell? a1 = some (.slice A us.length c)
 h2 : w.cell? a2 = some (.func (.func 83) #[] #[.pointer (some a1)])
 h3 : TsIn w A c us
theorem putP.up (a1 a2 : Addr) (A : Option Addr) (c : Nat) (us : List TT) : Up (putP a1 a2 A c us) := fun w w' h hp => ⟨h.cell hp.h1, h.cell hp.h2, TsIn.up _ _ _ _ _ h hp.h3⟩
set_option maxHeartbeats 4000000 in
theorem zw7 (a1 a2 : Addr) (A : Option Addr) (c : Nat) (gs : List TT) (hBs : ∀ u ∈ gs, tmB u.tm) (t : TT) (d : Int) : zav Tryd.prog 84 [ttA t, .one (.v (.int .i64 d)), .one (.v (.pointer (some a1))), .one (.v (.pointer (some a2)))] [] 0 (fun w => putP a1 a2 A c gs w /\ TTIn w t) (ze5 (putR (gs.map TT.tm) t.tm d)) (zb7 (putR (gs.map TT.tm) t.tm d)) := by
 have hdown := zuu a1 A gs.length c t d
 obtain ⟨k, n, s, la, lc, ls, aa, ac, us⟩ := t
 obtain ⟨q, hq⟩ : ∃ q, IntKind.i64.wrap (n - d) = q := ⟨_, rfl⟩
 have hqr : I64 q := hq ▸ zih _
 have hspec : ∀ b1 b2 b3, decide (k = 1) = b1 -> decide (0 <= q) = b2 -> decide (q < (gs.length : Int)) = b3 -> putR (gs.map TT.tm) (TT.mk k n s la lc ls aa ac us).tm d = zrp (zsj (gs.map TT.tm) (gs.length - 1 - q.toNat) d) (zmq gs.length (TT.mk k n s la lc ls aa ac us).tm d) (b1 && (b2 && b3)) := by
  intro b1 b2 b3 e1 e2 e3
  rw [zbs, putR, List.length_map, hq, e1, e2, e3]
 obtain ⟨R, hR⟩ : ∃ R, putR (gs.map TT.tm) (TT.mk k n s la lc ls aa ac us).tm d = R := ⟨_, rfl⟩
 rw [hR] at hspec ⊢
 obtain ⟨D, hD⟩ : ∃ D, zmq gs.length (TT.mk k n s la lc ls aa ac us).tm d = D := ⟨_, rfl⟩
 rw [hD] at hspec hdown
 clear hR hD
 have hfalse : ∀ b, R = zrp (zsj (gs.map TT.tm) (gs.length - 1 - q.toNat) d) D b -> b = false -> R = D := fun b h e => by
  rw [h, e]
  rfl
 refine zas zac 42 [.cell 6 41, .tmp 7] Tryd.func84 rfl rfl (by kernel_rfl) rfl _ (leB rfl) ((putP.up _ _ _ _ _).and (TTIn.upS _)) ?_
 refine zai.told (p := gs.length <= 9223372036854775807) (fun w h => Nat.le_trans h.1.1.h3.le (Nat.le_trans h.1.1.h3.max (by decide))) (fun hgl => ?_)
 refine zaf zac [1] _ _ _ ?_
 refine zai.cutX (X := Unit) (fun _ => R = D) (fun _ => { s := [(1, .one (.v (.int .i64 d))), (2, .one (.v (.pointer (some a1)))), (3, .one (.v (.pointer (some a2)))), (4, .one (.p 0 0)), (6, .one (.p 1 0)), (7, .one (.v (.bool false)))], m := [(0, .cells 41 ((TT.mk k n s la lc ls aa ac us).cells.map SA.v)), (1, .cells 41 zap)], k := 2, f := [fun w => putP a1 a2 A c gs w /\ TTIn w (TT.mk k n s la lc ls aa ac us)] }) ?_ ?_
 ·refine zaf zac [2] _ _ _ ?_
  refine zai.ent (st' := { s := [(1, .one (.v (.int .i64 d))), (2, .one (.v (.pointer (some a1)))), (3, .one (.v (.pointer (some a2)))), (4, .one (.p 0 0)), (6, .one (.p 1 0)), (7, .one (.v (.bool false))), (8, .one (.v (.int .i64 q)))], m := [(0, .cells 41 ((TT.mk k n s la lc ls aa ac us).cells.map SA.v)), (1, .cells 41 zap)], k := 2, f := [fun w => putP a1 a2 A c gs w /\ TTIn w (TT.mk k n s la lc ls aa ac us)] }) (zaa [(0, .blk 0), (1, .blk 1)] rfl rfl rfl rfl (leB rfl) ⟨⟨_, rfl, rfl⟩, ⟨_, rfl, rfl⟩, ⟨_, rfl, rfl⟩, ⟨_, rfl, rfl⟩, ⟨_, rfl, rfl⟩, ⟨_, rfl, rfl⟩, ⟨_, rfl, oneI hq⟩, trivial⟩ ⟨⟨_, rfl, rfl⟩, ⟨_, rfl, rfl⟩, trivial⟩ ⟨⟨(putP.up _ _ _ _ _).and (TTIn.upS _), fun w h => h.1⟩, trivial⟩) ?_
  clear hq
  refine zaf zac [] _ _ _ ?_
  refine zad (fun h1 => ?_) (fun h1 => ?_)
  rotate_left
  ·have h1 : decide (k = 1) = false := h1
   exact ⟨(), hfalse _ (hspec _ _ _ h1 rfl rfl) rfl, zaa [(0, .blk 0), (1, .blk 1)] rfl rfl rfl rfl (leB rfl) (rs rfl rfl) (rm rfl rfl) ⟨⟨(putP.up _ _ _ _ _).and (TTIn.upS _), fun w h => h.1⟩, trivial⟩⟩
  have h1 : decide (k = 1) = true := h1
  refine zad (fun h2 => ?_) (fun h2 => ?_)
  rotate_left
  ·have h2 : decide (0 <= q) = false := h2
   exact ⟨(), hfalse _ (hspec _ _ _ h1 h2 rfl) rfl, zaa [(0, .blk 0), (1, .blk 1)] rfl rfl rfl rfl (leB rfl) (rs rfl rfl) (rm rfl rfl) ⟨⟨(putP.up _ _ _ _ _).and (TTIn.upS _), fun w h => h.1⟩, trivial⟩⟩
  have h2 : decide (0 <= q) = true := h2
  refine ⟨{ v := .slice A gs.length c }, fun w h => ⟨_, rfl, h.1.1.h1⟩, ?_⟩
  refine zad (fun h3 => ?_) (fun h3 => ?_)
  rotate_left
  ·have h3 : decide (q < (gs.length : Int)) = false := h3
   exact ⟨(), hfalse _ (hspec _ _ _ h1 h2 h3) rfl, zaa [(0, .blk 0), (1, .blk 1)] rfl rfl rfl rfl (leB rfl) (rs rfl rfl) (rm rfl rfl) ⟨⟨(putP.up _ _ _ _ _).and (TTIn.upS _), fun w h => h.1⟩, trivial⟩⟩
  have h3 : decide (q < (gs.length : Int)) = true := h3
  have e := hspec _ _ _ h1 h2 h3
  have g2 := of_decide_eq_true h2
  have g3 := of_decide_eq_true h3
  clear hspec hfalse
  obtain ⟨i, hi⟩ : ∃ i, gs.length - 1 - q.toNat = i := ⟨_, rfl⟩
  have hil : i < gs.length := by omega
  obtain ⟨g, hg⟩ : ∃ g, gs[i]? = some g := ⟨_, List.getElem?_eq_getElem hil⟩
  have e : R = upO (zdj (zc5 d 0) g.tm 0 3000) := by
   rw [e, hi]
   show zsj _ _ _ = _
   unfold zsj
   rw [List.getElem?_map, hg]
   rfl
  have hup := zze g d (hBs g (List.mem_of_getElem? hg))
  obtain ⟨U, hU⟩ : ∃ U, zdj (zc5 d 0) g.tm 0 3000 = U := ⟨_, rfl⟩
  rw [hU] at hup e
  clear hU
  have hidx : IntKind.i64.wrap (IntKind.i64.wrap ((gs.length : Int) - 1) - q) = (i : Int) := by
   rw [za9 (n := (gs.length : Int) - 1) (by omega) (by omega), za9 (by omega) (by omega)]
   omega
  clear h1 h2 h3
  refine ⟨{ v := .slice A gs.length c }, fun w h => ⟨_, rfl, h.1.1.h1⟩, ?_⟩
  refine ⟨{ v := .slice A gs.length c }, fun w h => ⟨_, rfl, h.1.1.h1⟩, ?_⟩
  refine ⟨{ n := i }, ⟨hidx, hil, fun w h => ?_⟩, ?_⟩
  ·obtain ⟨⟨a, ha, _⟩, _⟩ := h.1.1.h3.arg hg
   rw [ha]; rfl
  obtain ⟨gk, gn, gnm, gla, glc, gls, gaa, gac, gus⟩ := g
  refine ⟨{ cs := (TT.mk gk gn gnm gla glc gls gaa gac gus).cells }, ⟨TT.cells_one (TT.mk gk gn gnm gla glc gls gaa gac gus), rfl, fun w h => ?_⟩, ?_⟩
  ·obtain ⟨⟨a, ha, h3⟩, _⟩ := h.1.1.h3.arg hg
   exact ⟨_, by rw [ha]; rfl, h3⟩
  cases U with
  | none =>
   have e : R = none := e
   subst e
   refine zab [] hup rfl trivial rfl rfl (fun w h => (h.1.1.h3.arg hg).2) (fun _ _ => ⟨rfl, rfl⟩) (fun _ _ => ?_)
   exact ⟨zba 0 0 ⟨#[]⟩, trivial, rfl, zaa [] rfl rfl rfl rfl (Nat.zero_le _) ⟨⟨_, rfl, rfl⟩, trivial⟩ trivial ⟨⟨Up.true, fun _ _ => trivial⟩, trivial⟩⟩
  | some y =>
   obtain ⟨y, l2⟩ := y
   have e : R = some (some y) := e
   subst e
   refine zab [] hup rfl trivial rfl rfl (fun w h => (h.1.1.h3.arg hg).2) (fun x _ => ?_) (fun x hx => ?_)
   ·obtain ⟨vk, vn, vnm, vla, vlc, vls, vaa, vac, vus⟩ := x
    exact ⟨rfl, rfl⟩
   obtain ⟨vk, vn, vnm, vla, vlc, vls, vaa, vac, vus⟩ := x
   exact ⟨_, rfl, (TT.mk vk vn vnm vla vlc vls vaa vac vus), hx, rfl, zaa [] rfl rfl rfl rfl (Nat.zero_le _) ⟨⟨_, rfl, rfl⟩, trivial⟩ trivial ⟨⟨TTIn.upS _, fun w h => h.1⟩, trivial⟩⟩
 ·intro _ e
  subst e
  cases R with
  | none =>
   refine zaf zac [] _ _ _ ?_
   refine ⟨{ v := .func (.func 83) #[] #[.pointer (some a1)] }, fun w h => ⟨_, rfl, h.1.1.h2⟩, ?_⟩
   refine zab [] hdown rfl trivial rfl rfl (fun w h => ⟨h.1.1.h1, h.1.2⟩) (fun _ _ => ⟨rfl, rfl⟩) (fun _ _ => ?_)
   exact ⟨zba 0 0 ⟨#[]⟩, trivial, rfl, zaa [] rfl rfl rfl rfl (Nat.zero_le _) ⟨⟨_, rfl, rfl⟩, trivial⟩ trivial ⟨⟨Up.true, fun _ _ => trivial⟩, trivial⟩⟩
  | some o =>
  cases o with
  | none =>
   refine zaf zac [] _ _ _ ?_
   refine ⟨{ v := .func (.func 83) #[] #[.pointer (some a1)] }, fun w h => ⟨_, rfl, h.1.1.h2⟩, ?_⟩
   refine zab [] hdown rfl trivial rfl rfl (fun w h => ⟨h.1.1.h1, h.1.2⟩) (fun _ _ => ⟨rfl, rfl⟩) (fun _ _ => ?_)
   exact ⟨_, rfl, zba 0 0 ⟨#[]⟩, trivial, rfl, zaa [] rfl rfl rfl rfl (Nat.zero_le _) ⟨⟨_, rfl, rfl⟩, trivial⟩ trivial ⟨⟨Up.true, fun _ _ => trivial⟩, trivial⟩⟩
  | some y =>
   refine zaf zac [] _ _ _ ?_
   refine ⟨{ v := .func (.func 83) #[] #[.pointer (some a1)] }, fun w h => ⟨_, rfl, h.1.1.h2⟩, ?_⟩
   refine zab [] hdown rfl trivial rfl rfl (fun w h => ⟨h.1.1.h1, h.1.2⟩) (fun x _ => ?_) (fun x hx => ?_)
   ·obtain ⟨vk, vn, vnm, vla, vlc, vls, vaa, vac, vus⟩ := x
    exact ⟨rfl, rfl⟩
   obtain ⟨vk, vn, vnm, vla, vlc, vls, vaa, vac, vus⟩ := x
   exact ⟨_, rfl, (TT.mk vk vn vnm vla vlc vls vaa vac vus), hx, rfl, zaa [] rfl rfl rfl rfl (Nat.zero_le _) ⟨⟨_, rfl, rfl⟩, trivial⟩ trivial ⟨⟨TTIn.upS _, fun w h => h.1⟩, trivial⟩⟩
def zjo (args : List Tm) (t : Tm) : Option Tm := zgd (ze6 (putR args) t) (args.any fun u => !zbe u)
theorem zts {w : World} {g1 g2 : Nat} {A : Option Addr} {c : Nat} {us : List TT} (h1 : SlAt w (some ⟨g1, 0, none⟩) [.slice A us.length c]) (h2 : SlAt w (some ⟨g2, 0, none⟩) [.func (.func 83) #[] #[.pointer (some ⟨g1, 0, none⟩)]]) (h3 : TsIn w A c us) : putP ⟨g1, 0, none⟩ ⟨g2, 0, none⟩ A c us w := by
 obtain ⟨a, ha, hc⟩ := h1 0 _ rfl
 obtain ⟨b, hb, hd⟩ := h2 0 _ rfl
 cases ha
 cases hb
 exact ⟨hc, hd, h3⟩
set_option maxHeartbeats 4000000 in
theorem zus (t : TT) (A : Option Addr) (c : Nat) (gs : List TT) (hB : tmB t.tm) (hBs : ∀ u ∈ gs, tmB u.tm) : zav Tryd.prog 40 [ttA t, .one (.v (.slice A gs.length c))] [] 0 (fun w => tsP A c gs w /\ TTIn w t) (ze5 (some (zjo (gs.map TT.tm) t.tm))) (zb7 (some (zjo (gs.map TT.tm) t.tm))) := by
 have hmade := fun a1 a2 => zlp 84 (.pointer (some a1)) (.pointer (some a2)) (putP a1 a2 A c gs) (putP.up _ _ _ _ _) (putR (gs.map TT.tm)) (fun t d _ => zw7 a1 a2 A c gs hBs t d) t hB
 have hhas := zv2 A c gs
 have hspec := show zjo (gs.map TT.tm) t.tm = _ by rw [zjo]
 obtain ⟨R, hR⟩ : ∃ R, zjo (gs.map TT.tm) t.tm = R := ⟨_, rfl⟩
 rw [hR] at hspec ⊢
 obtain ⟨o, ho⟩ : ∃ o, ze6 (putR (gs.map TT.tm)) t.tm = o := ⟨_, rfl⟩
 rw [ho] at hspec hmade
 obtain ⟨b, hb⟩ : ∃ b, ((gs.map TT.tm).any fun u => !zbe u) = b := ⟨_, rfl⟩
 rw [hb] at hspec hhas
 clear hR ho hB hb
 obtain ⟨k, n, s, la, lc, ls, aa, ac, us⟩ := t
 refine zas zac 16 [.cell 4 41, .tmp 5] Tryd.func40 rfl rfl (by kernel_rfl) rfl _ (leB rfl) ((tsP.up _ _ _).and (TTIn.upS _)) ?_
 cases b with
 | true =>
  have e : R = none := hspec
  subst e
  refine zaf zac [] _ _ _ ?_
  refine zab [] hhas rfl trivial rfl rfl (fun w h => h.1.1) (fun _ _ => ⟨rfl, rfl⟩) (fun _ _ => ?_)
  exact ⟨_, rfl, zba 0 0 ⟨#[]⟩, trivial, rfl, zaa [] rfl rfl rfl rfl (Nat.zero_le _) ⟨⟨_, rfl, rfl⟩, trivial⟩ trivial ⟨⟨Up.true, fun _ _ => trivial⟩, trivial⟩⟩
 | false =>
 have e : R = o := hspec
 subst e
 refine zaf zac [] _ _ _ ?_
 refine zab [] hhas rfl trivial rfl rfl (fun w h => h.1.1) (fun _ _ => ⟨rfl, rfl⟩) (fun _ _ => ?_)
 refine zau 1 (vs := [.slice A gs.length c]) rfl rfl (fun g1 => ?_)
 refine ziy 3 (vs := [.func (.func 83) #[] #[.pointer (some ⟨g1, 0, none⟩)]]) rfl (fun e => rfl) (fun g2 => ?_)
 have hm := hmade ⟨g1, 0, none⟩ ⟨g2, 0, none⟩
 cases R with
 | none =>
  refine zab [] hm rfl trivial rfl rfl (fun w h => ⟨⟨h.2.2.2.1.1.1, zts h.2.1 h.1 h.2.2.2.1.1.2⟩, h.2.2.2.1.2⟩) (fun _ _ => ⟨rfl, rfl⟩) (fun x _ => ?_)
  exact ⟨_, rfl, x, trivial, rfl, zaa [] rfl rfl rfl rfl (Nat.zero_le _) ⟨⟨_, rfl, rfl⟩, trivial⟩ trivial ⟨⟨Up.true, fun _ _ => trivial⟩, trivial⟩⟩
 | some x0 =>
  refine zab [] hm rfl trivial rfl rfl (fun w h => ⟨⟨h.2.2.2.1.1.1, zts h.2.1 h.1 h.2.2.2.1.1.2⟩, h.2.2.2.1.2⟩) (fun x _ => ?_) (fun x hx => ?_)
  ·obtain ⟨vk, vn, vnm, vla, vlc, vls, vaa, vac, vus⟩ := x
   exact ⟨rfl, rfl⟩
  obtain ⟨vk, vn, vnm, vla, vlc, vls, vaa, vac, vus⟩ := x
  exact ⟨_, rfl, (TT.mk vk vn vnm vla vlc vls vaa vac vus), hx, rfl, zaa [] rfl rfl rfl rfl (Nat.zero_le _) ⟨⟨_, rfl, rfl⟩, trivial⟩ trivial ⟨⟨TTIn.upS _, fun w h => h.1⟩, trivial⟩⟩
end Go.Proofs.YtmkpiekbpakigaaDoor
end
section
set_option linter.unusedVariables false
set_option linter.unusedSimpArgs false
namespace Go.Proofs.YtmkpiekbpakigaaDoor
open Go.RowKit Go.Proofs.Base Go.Proofs.Sym
structure SsIn (w : World) (A : Option Addr) (c : Nat) (ns : List ByteArray) : Prop where
 cells : SlAt w A (ns.map Value.string)
 nil : A = none -> ns.length = 0 /\ c = 0
 le : ns.length <= c
 max : c <= maxLen
theorem SsIn.up (A : Option Addr) (c : Nat) (ns : List ByteArray) : Up fun w => SsIn w A c ns := fun w w' h hb => ⟨SlAt.up _ _ _ _ h hb.cells, hb.nil, hb.le, hb.max⟩
theorem SsIn.get {w : World} {A : Option Addr} {c : Nat} {ns : List ByteArray} (h : SsIn w A c ns) {j : Nat} {x : ByteArray} (hj : ns[j]? = some x) : ∃ a, A = some a /\ w.cell? (a.add j) = some (.string x) :=
 h.cells j _ (by rw [List.getElem?_map, hj]; rfl)
def sIdx (s : ByteArray) : List ByteArray -> Int -> Int
 | [], _ => -1
 | x :: r, j => match decide (s = x) with
  | true => j
  | false => sIdx s r (j + 1)
theorem zjq (A : Option Addr) (c : Nat) (ns : List ByteArray) (s : ByteArray) (hl : ns.length <= 9223372036854775807) : PCall Tryd.prog 115 [.slice A ns.length c, .string s] (fun w => SsIn w A c ns) (fun r => r = .int .i64 (sIdx s ns 0)) (fun _ _ => True) := by
 refine zar zac 19 [.tmp 4] Tryd.func115 rfl rfl (by kernel_rfl) rfl _ (leB rfl) (SsIn.up _ _ _) (fun _ => Up.true) ?_
 refine zaf zac [] _ _ _ ?_
 refine ⟨⟨Nat, fun j => j <= ns.length /\ sIdx s (ns.drop j) j = sIdx s ns 0,
  fun j => { s := [(0, .one (.v (.slice A ns.length c))), (1, .one (.v (.string s))), (7, .one (.v (.int .i64 (ns.length : Int)))), (8, .one (.v (.int .i64 (j : Int))))], m := [], k := 0, f := [fun w => SsIn w A c ns] },
  fun j => ns.length - j, ⟨0, ⟨Nat.zero_le _, rfl⟩, ?_⟩, ?_⟩⟩
 ·exact zaa [] rfl rfl rfl rfl (Nat.le_refl _) ⟨⟨_, rfl, rfl⟩, ⟨_, rfl, rfl⟩, ⟨_, rfl, rfl⟩, ⟨_, rfl, rfl⟩, trivial⟩ trivial ⟨⟨SsIn.up _ _ _, fun w h => h.1⟩, trivial⟩
 rintro j ⟨hj, hA⟩
 refine zad (fun hlt => ?_) (fun hge => ?_)
 ·have hlt : j < ns.length := by
   have h : decide ((j : Int) < (ns.length : Int)) = true := hlt
   have := of_decide_eq_true h
   omega
  obtain ⟨x, hx⟩ : ∃ x, ns[j]? = some x := ⟨_, List.getElem?_eq_getElem hlt⟩
  have hstep : ∀ b, decide (s = x) = b -> sIdx s ns 0 = match b with | true => (j : Int) | false => sIdx s (ns.drop (j + 1)) (j + 1) := by
   intro b hb
   rw [<- hA, List.drop_eq_getElem_cons (by simpa using hlt), sIdx]
   simp [(List.getElem?_eq_some_iff.1 hx).2, hb]
  refine ⟨{ n := j }, ⟨rfl, hlt, fun w h => ?_⟩, ?_⟩
  ·obtain ⟨a, ha, _⟩ := h.1.get hx
   rw [ha]; rfl
  refine ⟨{ v := .string x }, fun w h => ?_, ?_⟩
  ·obtain ⟨a, ha, h3⟩ := h.1.get hx
   exact ⟨_, by rw [ha]; rfl, by simpa using h3⟩
  refine zad (fun h => ?_) (fun h => ?_)
  ·have h : decide (s = x) = true := h
   exact ⟨_, rfl, Told.val (by rw [hstep _ h])⟩
  ·have h : decide (s = x) = false := h
   refine ⟨j + 1, ⟨hlt, (hstep _ h).symm⟩, by simp only; omega, ?_⟩
   exact zaa [] rfl rfl rfl rfl (Nat.le_refl _) ⟨⟨_, rfl, rfl⟩, ⟨_, rfl, rfl⟩, ⟨_, rfl, rfl⟩, ⟨_, rfl, oneI (za9 (by omega) (by omega))⟩, trivial⟩ trivial ⟨⟨SsIn.up _ _ _, fun w h => h.1⟩, trivial⟩
 ·have hge : ns.length <= j := by
   have h : decide ((j : Int) < (ns.length : Int)) = false := hge
   have := of_decide_eq_false h
   omega
  have hend : sIdx s ns 0 = -1 := by
   rw [<- hA, List.drop_eq_nil_of_le (by simpa using hge)]
   rfl
  exact ⟨_, rfl, Told.val (by rw [hend])⟩
def zu6 (m : Nat) (d q : Int) : Tm := .mk 1 (IntKind.i64.wrap (IntKind.i64.wrap (IntKind.i64.wrap (d + (m : Int)) - 1) - q)) ⟨#[]⟩ [] []
def zmw (ns : List ByteArray) : Tm -> Int -> Option (Option Tm)
 | .mk k n s ls us, d => zrp (some (some (zu6 ns.length d (sIdx s ns 0)))) (zc5 (ns.length : Int) 0 (.mk k n s ls us) d) (decide (k = 4) && (decide ((ls.length : Int) = 0) && decide (0 <= sIdx s ns 0)))
structure zg3 (a1 a2 b1 b2 : Addr) (A : Option Addr) (c : Nat) (ns : List ByteArray) (w : World) : Prop where
 h1 : w.cell? a1 = some (.slice A ns.length c)
 h2 : w.cell? a2 = some (.func (.func 126) #[] #[.pointer (some b1), .pointer (some b2)])
 h3 : SsIn w A c ns
 h4 : zfk b1 b2 (ns.length : Int) 0 w
theorem zg3.up (a1 a2 b1 b2 : Addr) (A : Option Addr) (c : Nat) (ns : List ByteArray) : Up (zg3 a1 a2 b1 b2 A c ns) := fun w w' h hp => ⟨h.cell hp.h1, h.cell hp.h2, SsIn.up _ _ _ _ _ h hp.h3, zfk.up _ _ _ _ _ _ h hp.h4⟩
set_option maxHeartbeats 4000000 in
theorem zq2 (a1 a2 b1 b2 : Addr) (A : Option Addr) (c : Nat) (ns : List ByteArray) (t : TT) (d : Int) : zav Tryd.prog 114 [ttA t, .one (.v (.int .i64 d)), .one (.v (.pointer (some a1))), .one (.v (.pointer (some a2)))] [] 0 (fun w => zg3 a1 a2 b1 b2 A c ns w /\ TTIn w t) (ze5 (zmw ns t.tm d)) (zb7 (zmw ns t.tm d)) := by
 have hmv := zjf b1 b2 (ns.length : Int) 0 t d
 by_cases hnl : ns.length <= 9223372036854775807
 rotate_left
 ·refine ⟨(zg3.up _ _ _ _ _ _ _).and (TTIn.upS _), fun cx e w hw hn0 he hm hlt => ?_⟩
  have h3 := hm.fact.1.1.h3
  exact absurd (Nat.le_trans h3.le (Nat.le_trans h3.max (by decide))) hnl
 obtain ⟨k, n, s, la, lc, ls, aa, ac, us⟩ := t
 have hix := zjq A c ns s hnl
 obtain ⟨q, hq⟩ : ∃ q, sIdx s ns 0 = q := ⟨_, rfl⟩
 have hspec : ∀ x1 x2 x3, decide (k = 4) = x1 -> decide ((ls.length : Int) = 0) = x2 -> decide (0 <= q) = x3 -> zmw ns (TT.mk k n s la lc ls aa ac us).tm d = zrp (some (some (zu6 ns.length d q))) (zc5 (ns.length : Int) 0 (TT.mk k n s la lc ls aa ac us).tm d) (x1 && (x2 && x3)) := by
  intro x1 x2 x3 e1 e2 e3
  rw [zbs, zmw, hq, e1, e2, e3]
 rw [hq] at hix
 obtain ⟨R, hR⟩ : ∃ R, zmw ns (TT.mk k n s la lc ls aa ac us).tm d = R := ⟨_, rfl⟩
 rw [hR] at hspec ⊢
 obtain ⟨D, hD⟩ : ∃ D, zc5 (ns.length : Int) 0 (TT.mk k n s la lc ls aa ac us).tm d = D := ⟨_, rfl⟩
 rw [hD] at hspec hmv
 clear hR hD hq
 have hfalse : ∀ b, R = zrp (some (some (zu6 ns.length d q))) D b -> b = false -> R = D := fun b h e => by
  rw [h, e]
  rfl
 refine zas zac 40 [.cell 6 41, .tmp 7] Tryd.func114 rfl rfl (by kernel_rfl) rfl _ (leB rfl) ((zg3.up _ _ _ _ _ _ _).and (TTIn.upS _)) ?_
 refine zaf zac [1] _ _ _ ?_
 refine zai.cutX (X := Unit) (fun _ => R = D) (fun _ => { s := [(1, .one (.v (.int .i64 d))), (2, .one (.v (.pointer (some a1)))), (3, .one (.v (.pointer (some a2)))), (4, .one (.p 0 0)), (6, .one (.p 1 0)), (7, .one (.v (.bool false)))], m := [(0, .cells 41 ((TT.mk k n s la lc ls aa ac us).cells.map SA.v)), (1, .cells 41 zap)], k := 2, f := [fun w => zg3 a1 a2 b1 b2 A c ns w /\ TTIn w (TT.mk k n s la lc ls aa ac us)] }) ?_ ?_
 ·refine zaf zac [2] _ _ _ ?_
  refine ⟨{ v := .slice A ns.length c }, fun w h => ⟨_, rfl, h.1.1.h1⟩, ?_⟩
  refine zae hix (fun _ => rfl) (fun w h => h.1.1.h3) ?_
  rintro r rfl
  refine zai.ent (st' := { s := [(1, .one (.v (.int .i64 d))), (2, .one (.v (.pointer (some a1)))), (3, .one (.v (.pointer (some a2)))), (4, .one (.p 0 0)), (6, .one (.p 1 0)), (7, .one (.v (.bool false))), (8, .one (.v (.int .i64 q)))], m := [(0, .cells 41 ((TT.mk k n s la lc ls aa ac us).cells.map SA.v)), (1, .cells 41 zap)], k := 2, f := [fun w => zg3 a1 a2 b1 b2 A c ns w /\ TTIn w (TT.mk k n s la lc ls aa ac us)] }) (zaa [(0, .blk 0), (1, .blk 1)] rfl rfl rfl rfl (leB rfl) (rs rfl rfl) (rm rfl rfl) ⟨⟨(zg3.up _ _ _ _ _ _ _).and (TTIn.upS _), fun w h => h.2.1⟩, trivial⟩) ?_
  refine zaf zac [3] _ _ _ ?_
  refine zad (fun h1 => ?_) (fun h1 => ?_)
  rotate_left
  ·have h1 : decide (k = 4) = false := h1
   exact ⟨(), hfalse _ (hspec _ _ _ h1 rfl rfl) rfl, zaa [(0, .blk 0), (1, .blk 1)] rfl rfl rfl rfl (leB rfl) (rs rfl rfl) (rm rfl rfl) ⟨⟨(zg3.up _ _ _ _ _ _ _).and (TTIn.upS _), fun w h => h.1⟩, trivial⟩⟩
  have h1 : decide (k = 4) = true := h1
  refine zad (fun h2 => ?_) (fun h2 => ?_)
  rotate_left
  ·have h2 : decide ((ls.length : Int) = 0) = false := h2
   exact ⟨(), hfalse _ (hspec _ _ _ h1 h2 rfl) rfl, zaa [(0, .blk 0), (1, .blk 1)] rfl rfl rfl rfl (leB rfl) (rs rfl rfl) (rm rfl rfl) ⟨⟨(zg3.up _ _ _ _ _ _ _).and (TTIn.upS _), fun w h => h.1⟩, trivial⟩⟩
  have h2 : decide ((ls.length : Int) = 0) = true := h2
  refine zad (fun h3 => ?_) (fun h3 => ?_)
  rotate_left
  ·have h3 : decide (0 <= q) = false := h3
   exact ⟨(), hfalse _ (hspec _ _ _ h1 h2 h3) rfl, zaa [(0, .blk 0), (1, .blk 1)] rfl rfl rfl rfl (leB rfl) (rs rfl rfl) (rm rfl rfl) ⟨⟨(zg3.up _ _ _ _ _ _ _).and (TTIn.upS _), fun w h => h.1⟩, trivial⟩⟩
  have h3 : decide (0 <= q) = true := h3
  have e := hspec _ _ _ h1 h2 h3
  subst e
  refine ⟨{ v := .slice A ns.length c }, fun w h => ⟨_, rfl, h.1.1.h1⟩, ?_⟩
  refine ⟨_, rfl, zba 1 (IntKind.i64.wrap (IntKind.i64.wrap (IntKind.i64.wrap (d + (ns.length : Int)) - 1) - q)) ⟨#[]⟩, ?_, rfl, ?_⟩
  ·show (zba 1 (IntKind.i64.wrap (IntKind.i64.wrap (IntKind.i64.wrap (d + (ns.length : Int)) - 1) - q)) ⟨#[]⟩).tm = zu6 ns.length d q
   unfold zba zu6
   rw [zbs]
   rfl
  exact zaa [] rfl rfl rfl rfl (Nat.zero_le _) ⟨⟨_, rfl, rfl⟩, trivial⟩ trivial ⟨⟨TTIn.upS _, fun w h => zeo w (by unfold I64; omega) (zih _) (by decide)⟩, trivial⟩
 ·intro _ e
  subst e
  cases R with
  | none =>
   refine zaf zac [] _ _ _ ?_
   refine ⟨{ v := .func (.func 126) #[] #[.pointer (some b1), .pointer (some b2)] }, fun w h => ⟨_, rfl, h.1.1.h2⟩, ?_⟩
   refine zab [] hmv rfl trivial rfl rfl (fun w h => ⟨h.1.1.h4, h.1.2⟩) (fun _ _ => ⟨rfl, rfl⟩) (fun _ _ => ?_)
   exact ⟨zba 0 0 ⟨#[]⟩, trivial, rfl, zaa [] rfl rfl rfl rfl (Nat.zero_le _) ⟨⟨_, rfl, rfl⟩, trivial⟩ trivial ⟨⟨Up.true, fun _ _ => trivial⟩, trivial⟩⟩
  | some o =>
  cases o with
  | none =>
   refine zaf zac [] _ _ _ ?_
   refine ⟨{ v := .func (.func 126) #[] #[.pointer (some b1), .pointer (some b2)] }, fun w h => ⟨_, rfl, h.1.1.h2⟩, ?_⟩
   refine zab [] hmv rfl trivial rfl rfl (fun w h => ⟨h.1.1.h4, h.1.2⟩) (fun _ _ => ⟨rfl, rfl⟩) (fun _ _ => ?_)
   exact ⟨_, rfl, zba 0 0 ⟨#[]⟩, trivial, rfl, zaa [] rfl rfl rfl rfl (Nat.zero_le _) ⟨⟨_, rfl, rfl⟩, trivial⟩ trivial ⟨⟨Up.true, fun _ _ => trivial⟩, trivial⟩⟩
  | some y =>
   refine zaf zac [] _ _ _ ?_
   refine ⟨{ v := .func (.func 126) #[] #[.pointer (some b1), .pointer (some b2)] }, fun w h => ⟨_, rfl, h.1.1.h2⟩, ?_⟩
   refine zab [] hmv rfl trivial rfl rfl (fun w h => ⟨h.1.1.h4, h.1.2⟩) (fun x _ => ?_) (fun x hx => ?_)
   ·obtain ⟨vk, vn, vnm, vla, vlc, vls, vaa, vac, vus⟩ := x
    exact ⟨rfl, rfl⟩
   obtain ⟨vk, vn, vnm, vla, vlc, vls, vaa, vac, vus⟩ := x
   exact ⟨_, rfl, (TT.mk vk vn vnm vla vlc vls vaa vac vus), hx, rfl, zaa [] rfl rfl rfl rfl (Nat.zero_le _) ⟨⟨_, rfl, rfl⟩, trivial⟩ trivial ⟨⟨TTIn.upS _, fun w h => h.1⟩, trivial⟩⟩
def zj7 (ns : List ByteArray) (t : Tm) : Option Tm := ze6 (zmw ns) t
theorem zpx {w : World} {g1 g2 g3 g4 : Nat} {A : Option Addr} {c : Nat} {ns : List ByteArray} (h1 : SlAt w (some ⟨g1, 0, none⟩) [.slice A ns.length c]) (h2 : SlAt w (some ⟨g2, 0, none⟩) [.func (.func 126) #[] #[.pointer (some ⟨g4, 0, none⟩), .pointer (some ⟨g3, 0, none⟩)]]) (h3 : SsIn w A c ns) (h4 : SlAt w (some ⟨g4, 0, none⟩) [.int .i64 0]) (h5 : SlAt w (some ⟨g3, 0, none⟩) [.int .i64 (ns.length : Int)]) : zg3 ⟨g1, 0, none⟩ ⟨g2, 0, none⟩ ⟨g4, 0, none⟩ ⟨g3, 0, none⟩ A c ns w := by
 obtain ⟨a, ha, hc⟩ := h1 0 _ rfl
 obtain ⟨b, hb, hd⟩ := h2 0 _ rfl
 cases ha
 cases hb
 exact ⟨hc, hd, h3, zfj h4 h5⟩
set_option maxHeartbeats 4000000 in
theorem zsz (t : TT) (A : Option Addr) (c : Nat) (ns : List ByteArray) (hB : tmB t.tm) : zav Tryd.prog 74 [ttA t, .one (.v (.slice A ns.length c))] [] 0 (fun w => (ML w /\ SsIn w A c ns) /\ TTIn w t) (ze5 (some (zj7 ns t.tm))) (zb7 (some (zj7 ns t.tm))) := by
 have hmade := fun a1 a2 b1 b2 => zlp 114 (.pointer (some a1)) (.pointer (some a2)) (zg3 a1 a2 b1 b2 A c ns) (zg3.up _ _ _ _ _ _ _) (zmw ns) (fun t d _ => zq2 a1 a2 b1 b2 A c ns t d) t hB
 unfold zj7
 obtain ⟨R, hR⟩ : ∃ R, ze6 (zmw ns) t.tm = R := ⟨_, rfl⟩
 rw [hR] at hmade ⊢
 clear hR hB
 obtain ⟨k, n, s, la, lc, ls, aa, ac, us⟩ := t
 refine zas zac 15 [.cell 4 41, .tmp 5] Tryd.func74 rfl rfl (by kernel_rfl) rfl _ (leB rfl) ((ML.up.and (SsIn.up _ _ _)).and (TTIn.upS _)) ?_
 refine zaf zac [] _ _ _ ?_
 refine zab [] (zea (ns.length : Int) 0) rfl trivial rfl rfl (fun _ _ => trivial) (fun _ _ => ⟨rfl, rfl⟩) (fun _ _ => ?_)
 refine zau 1 (vs := [.slice A ns.length c]) rfl rfl (fun g1 => ?_)
 refine zau 3 (vs := [.int .i64 (ns.length : Int)]) rfl rfl (fun g3 => ?_)
 refine zau 4 (vs := [.int .i64 0]) rfl rfl (fun g4 => ?_)
 refine ziy 5 (vs := [.func (.func 126) #[] #[.pointer (some ⟨g4, 0, none⟩), .pointer (some ⟨g3, 0, none⟩)]]) rfl (fun e => rfl) (fun g2 => ?_)
 have hm := hmade ⟨g1, 0, none⟩ ⟨g2, 0, none⟩ ⟨g4, 0, none⟩ ⟨g3, 0, none⟩
 cases R with
 | none =>
  refine zab [] hm rfl trivial rfl rfl (fun w h => ⟨⟨h.2.2.2.2.2.1.1.1, zpx h.2.2.2.1 h.1 h.2.2.2.2.2.1.1.2 h.2.1 h.2.2.1⟩, h.2.2.2.2.2.1.2⟩) (fun _ _ => ⟨rfl, rfl⟩) (fun x _ => ?_)
  exact ⟨_, rfl, x, trivial, rfl, zaa [] rfl rfl rfl rfl (Nat.zero_le _) ⟨⟨_, rfl, rfl⟩, trivial⟩ trivial ⟨⟨Up.true, fun _ _ => trivial⟩, trivial⟩⟩
 | some x0 =>
  refine zab [] hm rfl trivial rfl rfl (fun w h => ⟨⟨h.2.2.2.2.2.1.1.1, zpx h.2.2.2.1 h.1 h.2.2.2.2.2.1.1.2 h.2.1 h.2.2.1⟩, h.2.2.2.2.2.1.2⟩) (fun x _ => ?_) (fun x hx => ?_)
  ·obtain ⟨vk, vn, vnm, vla, vlc, vls, vaa, vac, vus⟩ := x
   exact ⟨rfl, rfl⟩
  obtain ⟨vk, vn, vnm, vla, vlc, vls, vaa, vac, vus⟩ := x
  exact ⟨_, rfl, (TT.mk vk vn vnm vla vlc vls vaa vac vus), hx, rfl, zaa [] rfl rfl rfl rfl (Nat.zero_le _) ⟨⟨_, rfl, rfl⟩, trivial⟩ trivial ⟨⟨TTIn.upS _, fun w h => h.1⟩, trivial⟩⟩
end Go.Proofs.YtmkpiekbpakigaaDoor
end
section
set_option linter.unusedVariables false
set_option linter.unusedSimpArgs false
namespace Go.Proofs.YtmkpiekbpakigaaDoor
open Go.RowKit Go.Proofs.Base Go.Proofs.Sym
theorem zpv (k j : Int) : zbi k j = 0 \/ zbi k j = 1 := by
 unfold zbi
 split
 ·exact .inr rfl
 ·exact .inl rfl
mutual
def goP (ψ : Tm -> Int -> Option Tm) : Tm -> Int -> Tm
 | .mk k n s ls us, d => match ψ (.mk k n s ls us) d with
  | some x => x
  | none => .mk k n s ls (goPs ψ k 0 us d)
def goPs (ψ : Tm -> Int -> Option Tm) (k : Int) : Int -> List Tm -> Int -> List Tm
 | _, [], _ => []
 | j, u :: r, d => goP ψ u (d + zbi k j) :: goPs ψ k (j + 1) r d
end
structure Fuse (ψ1 ψ2 ψ3 : Tm -> Int -> Option Tm) (δ : Int) : Prop where
 put : ∀ t d x, 0 <= d -> ψ1 t d = some x -> goP ψ2 x (d + δ) = goP ψ3 t d
 keep : ∀ k n s ls us us' d, 0 <= d -> ψ1 (.mk k n s ls us) d = none -> (∀ y, ψ3 (.mk k n s ls us) d = some y -> ψ2 (.mk k n s ls us') (d + δ) = some y) /\ (ψ3 (.mk k n s ls us) d = none -> ψ2 (.mk k n s ls us') (d + δ) = none)
end Go.Proofs.YtmkpiekbpakigaaDoor
end
section
set_option linter.unusedVariables false
set_option linter.unusedSimpArgs false
namespace Go.Proofs.Sym
open Go.RowKit Go.Proofs.Base Go.Proofs.Mono
structure zaw (P : Program) (N : Nat) (Cc : Cx -> Prop) (c : Code) (K : Exit -> St -> Prop) (st : St) : Prop where
 run : ∀ (cx : Cx) (e : Env) (a : Act) (w : World), Cc cx -> cx.n = N -> Sat cx e st a w -> c.wp P (Post cx K) a w
section
variable {P : Program} {T : Tab} {N : Nat} {Cc : Cx -> Prop} {K : Exit -> St -> Prop} {st : St}
theorem zaw.of {c : Code} (h : zai P N c K st) : zaw P N Cc c K st := ⟨fun cx e a w _ hn hS => h.run cx e a w hn hS⟩
theorem zaw.mono {c : Code} {K' : Exit -> St -> Prop} (h : zaw P N Cc c K st) (hK : ∀ ex st', K ex st' -> K' ex st') : zaw P N Cc c K' st :=
 ⟨fun cx e a w hc hn hS => wp_mono (h.run cx e a w hc hn hS) fun _ _ _ ⟨e', st', h1, h2⟩ => ⟨e', st', hK _ _ h1, h2⟩⟩
theorem zaw.ent {c : Code} {st' : St} (he : Ent st st') (h : zaw P N Cc c K st') : zaw P N Cc c K st :=
 ⟨fun cx e a w hc hn hS => let ⟨e', hS'⟩ := he.run cx e a w hS; h.run cx e' a w hc hn hS'⟩
theorem zaw.seq {x y : Code} (h : zaw P N Cc x (fun ex st' => match ex with | .normal => zaw P N Cc y K st' | ex => K ex st') st) : zaw P N Cc (.seq x y) K st := by
 refine ⟨fun cx e a w hc hn hS => wp_seq (wp_mono (h.run cx e a w hc hn hS) fun ex a' w' hq => ?_)⟩
 obtain ⟨e', st', hK, hS'⟩ := hq
 cases ex with
 | normal => exact hK.run cx e' a' w' hc hn hS'
 | _ => exact ⟨e', st', hK, hS'⟩
theorem zaw.cutX {x y : Code} {X : Type} (Ok : X -> Prop) (s : X -> St) (h1 : zai P N x (fun ex st' => match ex with | .normal => ∃ q, Ok q /\ Ent st' (s q) | ex => K ex st') st) (h2 : ∀ q, Ok q -> zaw P N Cc y K (s q)) : zaw P N Cc (.seq x y) K st := by
 refine zaw.seq ((zaw.of h1).mono fun ex st' hK => ?_)
 cases ex with
 | normal =>
  obtain ⟨q, hq, he⟩ := hK
  exact zaw.ent he (h2 q hq)
 | _ => exact hK
theorem zaw.cond_tmp {t : Nat} {x y : Code} {b : Bool} (hg : get t st.s = some (.one (.v (.bool b)))) (h1 : b = true -> zaw P N Cc x K { st with s := (t, .one (.v (.bool true))) :: st.s }) (h2 : b = false -> zaw P N Cc y K { st with s := (t, .one (.v (.bool false))) :: st.s }) : zaw P N Cc (.cond (.tmp t) x y) K st := by
 refine ⟨fun cx e a w hc hn hS => ?_⟩
 have hev : a.eval (.tmp t) = .bool b := (hS.ev (x := .tmp t) hg).2
 refine wp_cond_split hev (fun hb => ?_) (fun hb => ?_)
 ·subst hb
  exact (h1 rfl).run cx e a w hc hn (zdi hS hg rfl trivial)
 ·subst hb
  exact (h2 rfl).run cx e a w hc hn (zdi hS hg rfl trivial)
theorem zaw.block {id : Nat} {c : Code} (h : zaw P N Cc c (fun ex st' => match ex with | .exit j => (match Nat.beq j id with | true => K .normal st' | false => K (.exit j) st') | ex => K ex st') st) : zaw P N Cc (.block id c) K st := by
 refine ⟨fun cx e a w hc hn hS => wp_block (wp_mono (h.run cx e a w hc hn hS) fun ex a' w' hq => ?_)⟩
 obtain ⟨e', st', hK, hS'⟩ := hq
 cases ex with
 | exit j =>
  simp only [Exit.inBlock]
  simp only at hK
  split at hK
  ·rename_i hb
   rw [if_pos (by rw [<- Nat.beq_eq]; exact hb)]
   exact ⟨e', st', hK, hS'⟩
  ·rename_i hb
   rw [if_neg (fun e1 => by rw [e1, Nat.beq_refl] at hb; cases hb)]
   exact ⟨e', st', hK, hS'⟩
 | _ => exact ⟨e', st', hK, hS'⟩
theorem zaw.loop {c : Code} (X : Type) (Ok : X -> Prop) (s : X -> St) (μ : X -> Nat) (h0 : ∃ x, Ok x /\ Ent st (s x))
  (h : ∀ x, Ok x -> zaw P N Cc c (fun ex st' => match ex with | .normal => ∃ x', Ok x' /\ μ x' < μ x /\ Ent st' (s x') | ex => K ex st') (s x)) : zaw P N Cc (.loop c) K st := by
 refine ⟨fun cx e a w hc hn hS => ?_⟩
 refine zpz (fun n a w => ∃ x e, Ok x /\ μ x = n /\ Sat cx e (s x) a w) ?_ ?_
 ·obtain ⟨x, hx, he⟩ := h0
  obtain ⟨e', hS'⟩ := he.run cx e a w hS
  exact ⟨μ x, x, e', hx, rfl, hS'⟩
 ·rintro n a w ⟨x, e, hx, rfl, hS⟩
  refine wp_mono ((h x hx).run cx e a w hc hn hS) fun ex a' w' hq => ?_
  obtain ⟨e', st', hK, hS'⟩ := hq
  cases ex with
  | normal =>
   obtain ⟨x', hx', hlt, he'⟩ := hK
   obtain ⟨e'', hS''⟩ := he'.run cx e' a' w' hS'
   exact ⟨μ x', hlt, x', e'', hx', rfl, hS''⟩
  | _ => exact ⟨e', st', hK, hS'⟩
end
structure OpX (P : Program) (N : Nat) (Cc : Cx -> Prop) (o : Oper) (st : St) (Kx : SV -> St -> Prop) : Prop where
 run : ∀ (cx : Cx) (e : Env) (a : Act) (w : World), Cc cx -> cx.n = N -> Sat cx e st a w -> ∀ (next : Act -> World -> Prop) (Q : Exit -> Act -> World -> Prop),
  (∀ e' st' v w', Kx v st' -> e.eqTo st.k e' -> st.k <= st'.k -> v.lt st'.k -> st'.b = st.b -> Mem cx e' st'.m st'.k st'.f w' -> next (a.put o.dst (v.real e')) w') -> o.wp P a w next Q
theorem OpX.of {P : Program} {T : Tab} (hT : T.Ok P) {N : Nat} {Cc : Cx -> Prop} {o : Oper} {st : St} {Kx : SV -> St -> Prop} (sg : Sig) (hs : sig T st o = sg) (h : sigK P sg st Kx (fun _ _ => False)) : OpX P N Cc o st Kx :=
 ⟨fun cx e a w hc hn hS next Q hnext => zlb (X := fun _ _ => False) hT hS (fun ch e' st' w' hX _ => False.elim hX) hnext (by rw [hs]; exact h)⟩
def zof (sg : Sig) (v : SV) : Prop := match sg with
 | .det u => u = v
 | .pick ob f => ∃ c, ob c /\ f c = v
 | _ => False
def zrd (T : Tab) (N : Nat) (ops : Array Oper) (tb : List Nat) (ds : List (Nat × Dl)) (L : List Nat) (st : St) : List (Nat × Dl) -> Prop
 | [] => True
 | (k, d) :: r => (match ops[k]? with
  | none => False
  | some o => match o.guard with
   | some _ => False
   | none => d.dst = o.dst /\ match L.any (fun c => zay tb c k) with
    | true => True
    | false => zof (sig T (rst N ops tb ds k o st) o) d.v) /\ zrd T N ops tb ds L st r
theorem zgm {T : Tab} {N : Nat} {ops : Array Oper} {tb : List Nat} {ds : List (Nat × Dl)} {L : List Nat} {st : St} {k : Nat} {d : Dl} : ∀ {l : List (Nat × Dl)}, zrd T N ops tb ds L st l -> (k, d) ∈ l ->
  ∃ o, ops[k]? = some o /\ o.guard = none /\ d.dst = o.dst /\ (L.any (fun c => zay tb c k) = false -> zof (sig T (rst N ops tb ds k o st) o) d.v)
 | (k0, d0) :: r, h, hm => by
  rcases List.mem_cons.1 hm with heq | hm
  ·cases heq
   simp only [zrd] at h
   have h1 := h.1
   split at h1
   ·exact h1.elim
   ·rename_i o ho
    split at h1
    ·exact h1.elim
    ·rename_i hg
     refine ⟨o, ho, hg, h1.1, fun hL => ?_⟩
     have h2 := h1.2
     rw [hL] at h2
     exact h2
  ·exact zgm h.2 hm
def cgoX (P : Program) (T : Tab) (N : Nat) (Cc : Cx -> Prop) (ops : Array Oper) (tb C : List Nat) (ds : List (Nat × Dl)) (K : St -> Prop) : Nat -> List Nat -> St -> Prop
 | n, L, st => zrd T N ops tb ds L st ds /\ match C.all (fun i => hasN i L) with
  | true => K { st with s := selS N ds ++ st.s }
  | false => match n with
   | 0 => False
   | n + 1 => zns (fun i => match ops[i]? with
    | none => False
    | some o => match o.guard with
     | some _ => False
     | none => OpX P N Cc o (rst N ops tb ds i o st) (fun v st' => cgoX P T N Cc ops tb C ds K n (i :: L) (({ st' with s := st.s } : St).put N o.dst v))) (zjn C L tb)
structure zs4 (P : Program) (T : Tab) (N : Nat) (Cc : Cx -> Prop) (ops : Array Oper) (K : St -> Prop) (st : St) : Prop where
 ex : ∃ (tb C : List Nat) (ds : List (Nat × Dl)), (Region.before ops).toList = tb /\ tb.length = ops.size /\ zfa ops = true /\ zgf tb = true /\ zl8 ops.size C (zg8 ds) = true /\ zc4 (zg8 ds) = true /\ zb0 ops.size C = true /\ ((zg8 ds).all fun k => !hasN k C) = true /\
  cgoX P T N Cc ops tb C ds K C.length [] { st with s := zl2 ds st.s }
section
variable {P : Program} {T : Tab} {cx : Cx} {Cc : Cx -> Prop} {ops : Array Oper} {tb C : List Nat} {ds : List (Nat × Dl)} {K : Exit -> St -> Prop}
theorem zr4 (hC : Cc cx) (hT : T.Ok P) (Tb : zfg ops) (hbit : ∀ k j, bef ops k j = zay tb k j) (hcov : zl8 ops.size C (zg8 ds) = true) (hkeys : zc4 (zg8 ds) = true) (hCb : ∀ i ∈ C, i < ops.size) (hdis : ∀ k d, (k, d) ∈ ds -> k ∉ C) : ∀ (fuel : Nat) (listed : Array Bool) (n : Nat) (L : List Nat) (e : Env) (st : St) (a : Act) (w : World),
  listed.size = ops.size -> listed.toList.count false <= fuel -> (∀ k, k < ops.size -> listed.getD k false = true -> ∀ j, j < ops.size -> bef ops k j = true -> listed.getD j false = true) ->
  (∀ i, i ∈ C -> (hasN i L = true ↔ listed.getD i false = true)) -> (∀ i, i ∈ L -> listed.getD i false = true /\ i < ops.size) ->
  cx.n0 = st.b -> a.tmps.size = cx.n -> a.defers = cx.d -> Mem cx e st.m st.k st.f w ->
  (∀ i v, get i st.s = some v -> v.lt st.k /\ a.tmps[i]? = some (v.real e) /\ ∀ j d, (j, d) ∈ ds -> d.dst ≠ some i) ->
  (∀ k d, (k, d) ∈ ds -> listed.getD k false = true -> d.v.lt st.k /\ ∀ t, d.dst = some t -> t < cx.n -> a.tmps[t]? = some (d.v.real e)) ->
  cgoX P T cx.n Cc ops tb C ds (K .normal) n L st -> wpAny P .any ops (Post cx K) fuel listed a w := by
 intro fuel
 have main : ∀ (listed : Array Bool) (n : Nat) (L : List Nat) (e : Env) (st : St) (a : Act) (w : World), (∀ k, k < ops.size -> listed.getD k false = true) ->
   (∀ i, i ∈ C -> (hasN i L = true ↔ listed.getD i false = true)) -> cx.n0 = st.b -> a.tmps.size = cx.n -> a.defers = cx.d -> Mem cx e st.m st.k st.f w ->
   (∀ i v, get i st.s = some v -> v.lt st.k /\ a.tmps[i]? = some (v.real e) /\ ∀ j d, (j, d) ∈ ds -> d.dst ≠ some i) ->
   (∀ k d, (k, d) ∈ ds -> listed.getD k false = true -> d.v.lt st.k /\ ∀ t, d.dst = some t -> t < cx.n -> a.tmps[t]? = some (d.v.real e)) ->
   cgoX P T cx.n Cc ops tb C ds (K .normal) n L st -> Post cx K .normal a w := by
  intro listed n L e st a w hall hLC hb has had hm hsl hds hvc
  unfold cgoX at hvc
  obtain ⟨hstab, hvc⟩ := hvc
  have hCall : C.all (fun i => hasN i L) = true := List.all_eq_true.2 fun i hi => (hLC i hi).2 (hall i (hCb i hi))
  rw [hCall] at hvc
  refine ⟨e, _, hvc, hb, has, had, fun i v hi => ?_, hm⟩
  have hi : get i (selS cx.n ds ++ st.s) = some v := hi
  rw [zal] at hi
  split at hi
  ·rename_i v' hv'
   cases hi
   obtain ⟨j, d, h1, h2, h3, rfl⟩ := zcf hv'
   obtain ⟨o, ho, _⟩ := zgm hstab h1
   obtain ⟨h4, h5⟩ := hds j d h1 (hall j (Array.getElem?_eq_some_iff.1 ho).1)
   exact ⟨h4, h5 i h2 h3⟩
  ·obtain ⟨h4, h5, _⟩ := hsl i v hi
   exact ⟨h4, h5⟩
 induction fuel with
 | zero =>
  intro listed n L e st a w hsz hcnt hcl hLC hL hb has had hm hsl hds hvc
  have hall : ∀ k, k < ops.size -> listed.getD k false = true := fun k hk => by
   cases hu : listed.getD k false with
   | true => rfl
   | false =>
    exfalso
    have : false ∈ listed.toList := by
     have h2 : listed[k]'(by omega) = false := by simpa [Array.getD_eq_getD_getElem?, hsz, hk] using hu
     rw [<- h2]
     exact Array.getElem_mem_toList (h := by omega)
    have := List.count_pos_iff.2 this
    omega
  refine ⟨?_, main listed n L e st a w hall hLC hb has had hm hsl hds hvc⟩
  refine List.eq_nil_iff_forall_not_mem.2 (fun i hi => ?_)
  obtain ⟨h1, o, ho, _⟩ := mem_ready.1 hi
  have hlt : i < ops.size := (Array.getElem?_eq_some_iff.1 ho).1
  have h3 : listed.getD i false = false := by simpa [Array.getD_eq_getD_getElem?, hsz, hlt] using h1
  rw [hall i hlt] at h3
  cases h3
 | succ fuel ih =>
  intro listed n L e st a w hsz hcnt hcl hLC hL hb has had hm hsl hds hvc
  refine ⟨fun hr => main listed n L e st a w (zdz Tb hsz hr) hLC hb has had hm hsl hds hvc, fun i hi => ?_⟩
  obtain ⟨h1, o, ho, hall⟩ := mem_ready.1 hi
  have hlt : i < ops.size := (Array.getElem?_eq_some_iff.1 ho).1
  have hun : listed.getD i false = false := by simpa [Array.getD_eq_getD_getElem?, hsz, hlt] using h1
  have hpre : ∀ j, j < ops.size -> bef ops i j = true -> listed.getD j false = true := by
   intro j hj hbj
   obtain ⟨_, ed, he, hbd, h2⟩ := Tb.close ho hj hbj
   have hle := hall ed he hbd
   rcases h2 with rfl | h2
   ·exact hle
   ·exact hcl ed.on (Nat.lt_trans (Tb.back ho ed he hbd) hlt) hle j hj h2
  have hset : ∀ j d, (listed.setIfInBounds i true).getD j d = if j = i then true else listed.getD j d := by
   intro j d
   by_cases h : j = i
   ·subst h
    rw [if_pos rfl]
    simp [Array.getD_eq_getD_getElem?, hsz, hlt]
   ·rw [if_neg h, getD_set_ne d (Ne.symm h)]
  have hcnt2 : (listed.setIfInBounds i true).toList.count false <= fuel := by
   have h2 : listed[i]'(by omega) = false := by simpa [Array.getD_eq_getD_getElem?, hsz, hlt] using h1
   have h3 : (listed.setIfInBounds i true).toList.count false + 1 = listed.toList.count false := by
    rw [Array.toList_setIfInBounds, List.count_set (by simpa using (by omega : i < listed.size))]
    have : listed.toList[i]'(by simpa using (by omega : i < listed.size)) = false := by simpa using h2
    have hp : 0 < listed.toList.count false := List.count_pos_iff.2 (by rw [<- h2]; exact Array.getElem_mem_toList (h := by omega))
    rw [this]
    simp only [beq_self_eq_true, if_true]
    have h5 : (true == false) = false := rfl
    rw [h5]
    simp only [Bool.false_eq_true, if_false]
    omega
   omega
  have hcl2 : ∀ k, k < ops.size -> (listed.setIfInBounds i true).getD k false = true -> ∀ j, j < ops.size -> bef ops k j = true -> (listed.setIfInBounds i true).getD j false = true := by
   intro k hk hlk j hj hbj
   rw [hset] at hlk ⊢
   by_cases hji : j = i
   ·rw [if_pos hji]
   ·rw [if_neg hji]
    by_cases hki : k = i
    ·subst hki; exact hpre j hj hbj
    ·rw [if_neg hki] at hlk
     exact hcl k hk hlk j hj hbj
  have hvc0 := hvc
  unfold cgoX at hvc
  obtain ⟨hstab, hvc⟩ := hvc
  have hdsz : ∀ {j d}, (j, d) ∈ ds -> j < ops.size /\ d.dst = zbk ops j := fun hj => by
   obtain ⟨oj, hoj, _, hd, _⟩ := zgm hstab hj
   exact ⟨(Array.getElem?_eq_some_iff.1 hoj).1, by rw [hd]; simp [zbk, hoj]⟩
  have hsat : Sat cx e (rst cx.n ops tb ds i o st) a w := by
   refine ⟨hb, has, had, fun t v ht => ?_, hm⟩
   obtain ⟨_, ht⟩ := zdn ht
   rw [zal] at ht
   split at ht
   ·rename_i v' hv'
    cases ht
    obtain ⟨j, d, h1, h2, h3, rfl⟩ := zcf hv'
    obtain ⟨h4, h5⟩ := zei.1 h1
    obtain ⟨h6, h7⟩ := hds j d h4 (hpre j (hdsz h4).1 (by rw [hbit]; exact h5))
    exact ⟨h6, h7 t h2 h3⟩
   ·obtain ⟨h4, h5, _⟩ := hsl t v ht
    exact ⟨h4, h5⟩
  have hdst : zbk ops i = o.dst := by simp [zbk, ho]
  unfold wpOp
  rw [ho]
  simp only
  by_cases hik : ∃ d, (i, d) ∈ ds
  ·obtain ⟨d, hd⟩ := hik
   obtain ⟨o', ho', hg, hdd, hsg⟩ := zgm hstab hd
   rw [ho] at ho'
   cases ho'
   have hno : L.any (fun c => zay tb c i) = false := by
    rw [<- Bool.not_eq_true]
    intro hx
    obtain ⟨c, hc, hbc⟩ := List.any_eq_true.1 hx
    obtain ⟨h2, h3⟩ := hL c hc
    have := hcl c h3 h2 i hlt (by rw [hbit]; exact hbc)
    rw [hun] at this
    cases this
   have hsg := hsg hno
   have hok := zfc (o := o) hT hsat
   rw [if_pos (zaz hg _)]
   refine .inl ?_
   have hdv : d.v.lt (rst cx.n ops tb ds i o st).k /\ (execOp a.eval o).run P w = .ok (.value (d.v.real e)) w := by
    unfold zof at hsg
    split at hsg
    ·rename_i u hu
     rw [hu] at hok
     rw [<- hsg]
     exact hok
    ·rename_i ob fv hu
     rw [hu] at hok
     obtain ⟨c, hc, hv⟩ := hsg
     rw [<- hv]
     exact hok c hc
    ·exact hsg.elim
   obtain ⟨h2, h3⟩ := hdv
   unfold Oper.wp
   ·rw [h3]
    refine ih (listed.setIfInBounds i true) n L e st (a.put o.dst (d.v.real e)) w (by simpa using hsz) hcnt2 hcl2 (fun c hc => ?_) (fun c hc => ?_) hb (by rw [zc1]; exact has) (by rw [zbu]; exact had) hm (fun t v ht => ?_) (fun k d' hk hlk => ?_) hvc0
    ·rw [hset]
     by_cases hci : c = i
     ·subst hci
      exact absurd hc (hdis _ _ hd)
     ·rw [if_neg hci]
      exact hLC c hc
    ·obtain ⟨h4, h5⟩ := hL c hc
     refine ⟨?_, h5⟩
     rw [hset]
     split
     ·rfl
     ·exact h4
    ·obtain ⟨h4, h5, h6⟩ := hsl t v ht
     refine ⟨h4, ?_, h6⟩
     rw [za0, if_neg (fun e1 => h6 i d hd (hdd.trans e1))]
     exact h5
    ·rw [hset] at hlk
     by_cases hki : k = i
     ·subst hki
      rw [zg6 hkeys hk hd]
      refine ⟨h2, fun t ht hlt2 => ?_⟩
      rw [za0, if_pos (hdd.symm.trans ht), if_pos (by rw [has]; exact hlt2)]
     ·rw [if_neg hki] at hlk
      obtain ⟨h4, h5⟩ := hds k d' hk hlk
      refine ⟨h4, fun t ht hlt2 => ?_⟩
      rw [za0, if_neg (fun e1 => hki (Tb.uniq hlt (hdsz hk).1 (by rw [<- (hdsz hk).2]; exact ht) (by rw [hdst]; exact e1)))]
      exact h5 t ht hlt2
  ·have hiC : i ∈ C := by
    have h2 := List.all_eq_true.1 hcov i (List.mem_range.2 hlt)
    rw [Bool.or_eq_true] at h2
    rcases h2 with h2 | h2
    ·exact zbj.1 h2
    ·obtain ⟨p, hp, rfl⟩ := List.mem_map.1 (zbj.1 h2)
     exact absurd ⟨p.2, hp⟩ hik
   have hiL : hasN i L = false := by
    rw [<- Bool.not_eq_true]
    intro hx
    have := (hLC i hiC).1 hx
    rw [hun] at this
    cases this
   have hnall : C.all (fun i => hasN i L) = false := by
    rw [<- Bool.not_eq_true]
    intro hx
    have := List.all_eq_true.1 hx i hiC
    rw [hiL] at this
    cases this
   rw [hnall] at hvc
   simp only at hvc
   cases n with
   | zero => exact hvc.elim
   | succ n =>
    have hrdy : i ∈ zjn C L tb := by
     refine List.mem_filter.2 ⟨hiC, ?_⟩
     rw [hiL, Bool.not_false, Bool.true_and]
     refine List.all_eq_true.2 fun j hj => ?_
     rw [Bool.or_eq_true, Bool.not_eq_true']
     cases hbj : zay tb i j with
     | false => exact .inl rfl
     | true => exact .inr ((hLC j hj).2 (hpre j (hCb j hj) (by rw [hbit]; exact hbj)))
    have hstep := zgt hvc hrdy
    rw [ho] at hstep
    simp only at hstep
    split at hstep
    ·exact hstep.elim
    ·rename_i hg
     rw [if_pos (zaz hg _)]
     refine .inl (hstep.run cx e a w hC rfl hsat _ _ (fun e' st' v w' hK he hk hv hbs hm' => ?_))
     have hk : st.k <= st'.k := hk
     have he : e.eqTo st.k e' := he
     obtain ⟨p1, p2, p3, p4⟩ := zk7 cx.n ({ st' with s := st.s } : St) o.dst v
     refine ih (listed.setIfInBounds i true) n (i :: L) e' _ (a.put o.dst (v.real e')) w' (by simpa using hsz) hcnt2 hcl2 (fun c hc => ?_) (fun c hc => ?_) (by rw [p4]; exact hb.trans hbs.symm) (by rw [zc1]; exact has) (by rw [zbu]; exact had) (by rw [p1, p2, p3]; exact hm') (fun t u ht => ?_) (fun k d' hkd hlk => ?_) hK
     ·rw [hset, zbj, List.mem_cons]
      by_cases hci : c = i
      ·rw [if_pos hci]
       simp [hci]
      ·rw [if_neg hci, <- hLC c hc, zbj]
       simp [hci]
     ·rw [hset]
      rcases List.mem_cons.1 hc with rfl | hc
      ·rw [if_pos rfl]
       exact ⟨rfl, hlt⟩
      ·obtain ⟨h4, h5⟩ := hL c hc
       refine ⟨?_, h5⟩
       split
       ·rfl
       ·exact h4
     ·rw [p2]
      rcases zkz ht with ⟨h2, h3, rfl⟩ | ⟨h2, h3⟩
      ·refine ⟨hv, ?_, fun j d hj e1 => hik ⟨d, ?_⟩⟩
       ·rw [za0, if_pos h2, if_pos (by rw [has]; exact h3)]
       ·have := Tb.uniq hlt (hdsz hj).1 (by rw [<- (hdsz hj).2]; exact e1) (by rw [hdst]; exact h2)
        rw [this] at hj
        exact hj
      ·obtain ⟨h4, h5, h6⟩ := hsl t u h2
       refine ⟨SV.lt_mono hk h4, ?_, h6⟩
       rw [SV.real_eq he h4]
       rw [za0]
       split
       ·rename_i e1
        have h7 := h3 e1
        rw [Array.getElem?_eq_none (by rw [has]; omega)] at h5
        cases h5
       ·exact h5
     ·rw [p2]
      rw [hset] at hlk
      have hki : k ≠ i := fun e1 => hik ⟨d', e1 ▸ hkd⟩
      rw [if_neg hki] at hlk
      obtain ⟨h4, h5⟩ := hds k d' hkd hlk
      refine ⟨SV.lt_mono hk h4, fun t ht hlt2 => ?_⟩
      rw [SV.real_eq he h4, za0, if_neg (fun e1 => hki (Tb.uniq hlt (hdsz hkd).1 (by rw [<- (hdsz hkd).2]; exact ht) (by rw [hdst]; exact e1)))]
      exact h5 t ht hlt2
theorem zth (hC : Cc cx) {e : Env} {st : St} {a : Act} {w : World} (hT : T.Ok P) (hS : Sat cx e st a w) {id : Nat} (h : zs4 P T cx.n Cc ops (K .normal) st) : (Code.region id ops true).wp P (Post cx K) a w := by
 obtain ⟨tb, C, ds, htb, hlen, htab, htr, hcov, hkeys, hCb, hdis, hgo⟩ := h.ex
 have Tb := zfw htab
 have hbit : ∀ k j, bef ops k j = zay tb k j := by
  intro k j
  unfold bef zay
  rw [<- htb]
  congr 1
  simp [Array.getD_eq_getD_getElem?, List.getD]
 refine wp_region_any hT.mixed (zr4 hC hT Tb hbit hcov hkeys (zfs hCb) (fun k d hk hc => ?_) _ _ C.length [] e { st with s := zl2 ds st.s } a _ (by simp) (by simp) ?_ ?_ ?_ hS.base hS.size hS.defers (hS.mem.later ⟨rfl, rfl, rfl, Nat.le_refl _, fun _ _ => rfl⟩) ?_ ?_ hgo)
 ·have := List.all_eq_true.1 hdis k (List.mem_map.2 ⟨_, hk, rfl⟩)
  rw [zf5 hc] at this
  cases this
 ·intro k hk hlk
  rw [zbc] at hlk
  cases hlk
 ·intro i hi
  rw [zbc]
  simp [hasN]
 ·intro i hi
  cases hi
 ·intro i v hi
  obtain ⟨h1, h2⟩ := zff hi
  exact ⟨(hS.slots i v h1).1, (hS.slots i v h1).2, h2⟩
 ·intro k d hk hlk
  rw [zbc] at hlk
  cases hlk
theorem zaw.draw {N : Nat} {st : St} (hT : T.Ok P) {id : Nat} (h : zs4 P T N Cc ops (K .normal) st) : zaw P N Cc (.region id ops true) K st :=
 ⟨fun cx e a w hc hn hS => by
  subst hn
  exact zth hc hT hS h⟩
end
section
variable {P : Program} {T : Tab} {N : Nat} {Cc : Cx -> Prop} {ops : Array Oper} {tb C : List Nat} {ds : List (Nat × Dl)} {K : St -> Prop} {n : Nat} {L : List Nat} {st : St}
structure zaah (P : Program) (T : Tab) (N : Nat) (Cc : Cx -> Prop) (ops : Array Oper) (tb C : List Nat) (ds : List (Nat × Dl)) (K : St -> Prop) (n : Nat) (L : List Nat) (st : St) (i : Nat) : Prop where
 ex : ∃ o, ops[i]? = some o /\ o.guard = none /\ OpX P N Cc o (rst N ops tb ds i o st) (fun v st' => cgoX P T N Cc ops tb C ds K n (i :: L) (({ st' with s := st.s } : St).put N o.dst v))
def allX (P : Program) (T : Tab) (N : Nat) (Cc : Cx -> Prop) (ops : Array Oper) (tb C : List Nat) (ds : List (Nat × Dl)) (K : St -> Prop) (n : Nat) (L : List Nat) (st : St) : List Nat -> Prop
 | [] => True
 | i :: r => zaah P T N Cc ops tb C ds K n L st i /\ allX P T N Cc ops tb C ds K n L st r
theorem zag (st1 : St) (l : List Nat) (he : st = st1) (hn : C.all (fun i => hasN i L) = false) (hr : zjn C L tb = l) (hs : zrd T N ops tb ds L st1 ds) (h : allX P T N Cc ops tb C ds K n L st1 l) : cgoX P T N Cc ops tb C ds K (n + 1) L st := by
 subst he hr
 unfold cgoX
 refine ⟨hs, ?_⟩
 rw [hn]
 simp only
 have key : ∀ l, allX P T N Cc ops tb C ds K n L st l -> zns (fun i => match ops[i]? with
    | none => False
    | some o => match o.guard with
     | some _ => False
     | none => OpX P N Cc o (rst N ops tb ds i o st) (fun v st' => cgoX P T N Cc ops tb C ds K n (i :: L) (({ st' with s := st.s } : St).put N o.dst v))) l := by
  intro l
  induction l with
  | nil => intro _; trivial
  | cons i r ih =>
   rintro ⟨⟨o, ho, hg, hk⟩, hr⟩
   refine ⟨?_, ih hr⟩
   simp only [ho, hg]
   exact hk
 exact key _ h
theorem zat (st1 : St) (he : ({ st with s := selS N ds ++ st.s } : St) = st1) (hn : C.all (fun i => hasN i L) = true) (hs : zrd T N ops tb ds L st ds) (h : K st1) : cgoX P T N Cc ops tb C ds K n L st := by
 subst he
 unfold cgoX
 refine ⟨hs, ?_⟩
 rw [hn]
 exact h
end
end Go.Proofs.Sym
end
