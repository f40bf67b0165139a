/- What the claim needs of Mv6, Mv7, Mv8, Mv9, Mv10, Mv11, Ms0, Gt, in one text. -/
import Derived.Test.YtmkpiekbpakigaaDoorDomg
section
set_option linter.unusedVariables false
set_option linter.unusedSimpArgs false
namespace Go.Proofs.YtmkpiekbpakigaaDoor
open Go.RowKit Go.Proofs.Base Go.Proofs.Sym
mutual
def za4 : Tm -> Nat
 | .mk _ _ _ ls us => 1 + ls.length + zb6 us
def zb6 : List Tm -> Nat
 | [] => 0
 | t :: r => za4 t + zb6 r
end
theorem zs5 (t : Tm) : 1 <= za4 t := by
 cases t
 rw [za4]
 omega
theorem zj7 : ∀ (us : List Tm), us.length <= zb6 us
 | [] => Nat.zero_le _
 | t :: r => by
  have := zj7 r
  have := zs5 t
  rw [zb6, List.length_cons]
  omega
mutual
theorem zmk (c : Int) (h0 : 0 <= c) (h1 : c <= 3000) : ∀ (t : Tm), tmB t -> (c + za4 t <= 3000 /\ visT c t = (c + za4 t, true)) \/ (3000 < c + (za4 t : Int) /\ (visT c t).2 = false /\ 3000 < (visT c t).1)
 | .mk k n s ls us, h => by
  rw [tmB] at h
  have hl := h.1
  have hc : cntB c ls = c + (1 + (ls.length : Int)) := by
   unfold cntB
   rw [za6 (n := 1 + (ls.length : Int)) (by omega) (by omega), za6 (by omega) (by omega)]
  rw [visT, za4, hc]
  by_cases hle : c + (1 + (ls.length : Int)) <= 3000
  ·rw [decide_eq_true hle]
   simp only
   have := zkj (c + (1 + (ls.length : Int))) (by omega) hle us h.2.2
   rcases this with ⟨g1, g2⟩ | ⟨g1, g2, g3⟩
   ·refine .inl ⟨by omega, ?_⟩
    rw [g2]
    congr 1
    omega
   ·exact .inr ⟨by omega, g2, g3⟩
  ·rw [decide_eq_false hle]
   exact .inr ⟨by omega, rfl, by simp only; omega⟩
theorem zkj (c : Int) (h0 : 0 <= c) (h1 : c <= 3000) : ∀ (us : List Tm), tmBs us -> (c + zb6 us <= 3000 /\ zdj c us = (c + zb6 us, true)) \/ (3000 < c + (zb6 us : Int) /\ (zdj c us).2 = false /\ 3000 < (zdj c us).1)
 | [], _ => by
  rw [zdj, zb6]
  exact .inl ⟨by omega, by simp⟩
 | t :: r, h => by
  rw [tmBs] at h
  rw [zdj, zb6]
  rcases zmk c h0 h1 t h.1 with ⟨g1, g2⟩ | ⟨g1, g2, g3⟩
  ·rw [g2]
   simp only
   rcases zkj (c + za4 t) (by omega) g1 r h.2 with ⟨g3, g4⟩ | ⟨g3, g4, g5⟩
   ·refine .inl ⟨by omega, ?_⟩
    rw [g4]
    congr 1
    omega
   ·exact .inr ⟨by omega, g4, g5⟩
  ·rw [g2]
   exact .inr ⟨by omega, rfl, g3⟩
end
theorem zgb {t : Tm} (h : tmB t) : zcd t = if za4 t <= 3000 then (za4 t : Int) else 3001 := by
 unfold zcd
 rcases zmk 0 (by omega) (by omega) t h with ⟨g1, g2⟩ | ⟨g1, g2, g3⟩
 ·rw [g2]
  simp only
  rw [if_neg (by omega), if_pos (by omega)]
  omega
 ·rw [if_neg (c := za4 t <= 3000) (by omega)]
  split
  ·rfl
  ·omega
mutual
theorem zch : ∀ (t : Tm), za4 t <= 3000 -> tmB t
 | .mk k n s ls us, h => by
  rw [za4] at h
  have := zj7 us
  rw [tmB]
  exact ⟨by omega, by omega, zng us (by omega)⟩
theorem zng : ∀ (us : List Tm), zb6 us <= 3000 -> tmBs us
 | [], _ => by rw [tmBs]; trivial
 | t :: r, h => by
  rw [zb6] at h
  rw [tmBs]
  exact ⟨zch t (by omega), zng r (by omega)⟩
end
def zaz (t : Tm) : Bool := zbf 4 1099511627776 t
theorem zji {t : Tm} (h : tmB t) (hr : zaz t = true) : za4 t <= 3000 := by
 unfold zaz zbf at hr
 simp only [Bool.and_eq_true, decide_eq_true_eq] at hr
 have h1 := hr.2.2.2.2.1
 rw [zgb h] at h1
 split at h1
 ·assumption
 ·omega
def zut (x : Tm) : Bool -> Option Tm
 | true => some x
 | false => none
def zvy : Option (Tm × Int) -> Option Tm
 | none => none
 | some (x, _) => zut x (zaz x)
def zd4 (φ : Tm -> Int -> Option (Option Tm)) (t : Tm) : Option Tm := match zaz t with
 | false => none
 | true => zvy (zdd φ t 0 3000)
end Go.Proofs.YtmkpiekbpakigaaDoor
end
section
set_option linter.unusedVariables false
set_option linter.unusedSimpArgs false
namespace Go.Proofs.YtmkpiekbpakigaaDoor
open Go.RowKit Go.Proofs.Base Go.Proofs.Sym
set_option maxHeartbeats 4000000 in
theorem zkz (f : FuncId) (c1 c2 : Value) (pre : World -> Prop) (hpre : Up pre) (φ : Tm -> Int -> Option (Option Tm))
  (hφ : ∀ (t : TT) (d : Int), tmB t.tm -> zaw Tryd.prog f [ttA t, .one (.v (.int .i64 d)), .one (.v c1), .one (.v c2)] [] 0 (fun w => pre w /\ TTIn w t) (ze2 (φ t.tm d)) (zb5 (φ t.tm d))) (t : TT) (hB : tmB t.tm) :
  zaw Tryd.prog 79 [ttA t, .one (.fn f [] [.v c1, .v c2])] [] 0 (fun w => (ML w /\ pre w) /\ TTIn w t) (ze2 (some (zd4 φ t.tm))) (zb5 (some (zd4 φ t.tm))) := by
 have hr := zb2 t
 have hw := zp3 f c1 c2 pre hpre φ hφ t 0 3000 hB
 have hspec := show zd4 φ t.tm = _ by rw [zd4]
 obtain ⟨R, hR⟩ : ∃ R, zd4 φ t.tm = R := ⟨_, rfl⟩
 rw [hR] at hspec ⊢
 obtain ⟨b1, hb1⟩ : ∃ b, zaz t.tm = b := ⟨_, rfl⟩
 rw [hb1] at hspec
 rw [show zbf 4 1099511627776 t.tm = b1 from hb1] at hr
 obtain ⟨W, hW⟩ : ∃ W, zdd φ t.tm 0 3000 = W := ⟨_, rfl⟩
 rw [hW] at hspec hw
 clear hR hb1 hW
 obtain ⟨k, n, s, la, lc, ls, aa, ac, us⟩ := t
 have hn1 := zg2 b1
 refine zr2 ((ML.up.and hpre).and (TTIn.upS _)) _ _ fun c2 hc2 => ?_
 cases hc2
 cases b1 with
 | false =>
  have hspec : R = none := hspec
  subst hspec
  refine zaf zab [] _ _ _ ?_
  refine zae hr (fun _ => rfl) (fun w h => ⟨h.1.1.1, h.1.2⟩) ?_
  rintro r rfl
  refine zac [] hn1 rfl trivial rfl rfl (fun _ _ => trivial) (fun _ _ => ⟨rfl, rfl⟩) (fun _ _ => ?_)
  exact ⟨rfl, zac [1, 2] (zbv _ _ _ _ _ false) rfl ⟨rfl, rfl, trivial⟩ rfl rfl (fun _ _ => trivial) (fun _ _ => ⟨rfl, rfl⟩) (fun _ _ => ⟨_, rfl, zbc 0 0 ⟨#[]⟩, trivial, rfl, zaa [] rfl rfl rfl rfl (Nat.zero_le _) ⟨⟨_, rfl, rfl⟩, trivial⟩ trivial ⟨⟨Up.true, fun _ _ => trivial⟩, trivial⟩⟩)⟩
 | true =>
 have hspec : R = zvy W := hspec
 refine zaf zab [] _ _ _ ?_
 refine zae hr (fun _ => rfl) (fun w h => ⟨h.1.1.1, h.1.2⟩) ?_
 rintro r rfl
 refine zac [] hn1 rfl trivial rfl rfl (fun _ _ => trivial) (fun _ _ => ⟨rfl, rfl⟩) (fun _ _ => ?_)
 cases W with
 | none =>
  have hspec : R = none := hspec
  subst hspec
  refine zac [3] hw rfl ⟨rfl, trivial⟩ rfl rfl (fun w h => ⟨h.2.2.1.1.2, h.2.2.1.2⟩) (fun _ _ => ⟨rfl, rfl⟩) (fun _ _ => ?_)
  exact ⟨rfl, zac [1, 2] (zbv _ _ _ _ _ false) rfl ⟨rfl, rfl, trivial⟩ rfl rfl (fun _ _ => trivial) (fun _ _ => ⟨rfl, rfl⟩) (fun _ _ => ⟨_, rfl, zbc 0 0 ⟨#[]⟩, trivial, rfl, zaa [] rfl rfl rfl rfl (Nat.zero_le _) ⟨⟨_, rfl, rfl⟩, trivial⟩ trivial ⟨⟨Up.true, fun _ _ => trivial⟩, trivial⟩⟩)⟩
 | some q =>
 obtain ⟨x0, l2⟩ := q
 have hspec : R = zut x0 (zaz x0) := hspec
 refine zac [3] hw rfl ⟨rfl, trivial⟩ rfl rfl (fun w h => ⟨h.2.2.1.1.2, h.2.2.1.2⟩) (fun x _ => ?_) (fun x hx => ?_)
 ·obtain ⟨xk, xn, xnm, xla, xlc, xls, xaa, xac, xus⟩ := x
  exact ⟨rfl, rfl⟩
 have hx : x.tm = x0 := hx
 have hr2 := zb2 x
 obtain ⟨b2, hb2⟩ : ∃ b, zaz x0 = b := ⟨_, rfl⟩
 rw [hx, show zbf 4 1099511627776 x0 = b2 from hb2] at hr2
 rw [hb2] at hspec
 have hn2 := zg2 b2
 obtain ⟨xk, xn, xnm, xla, xlc, xls, xaa, xac, xus⟩ := x
 refine zae hr2 (fun _ => rfl) (fun w h => ⟨h.2.2.2.1.1.1, h.1⟩) ?_
 rintro r rfl
 cases b2 with
 | false =>
  have hspec : R = none := hspec
  subst hspec
  refine zac [] hn2 rfl trivial rfl rfl (fun _ _ => trivial) (fun _ _ => ⟨rfl, rfl⟩) (fun _ _ => ?_)
  exact ⟨rfl, zac [1, 2] (zbv _ _ _ _ _ false) rfl ⟨rfl, rfl, trivial⟩ rfl rfl (fun _ _ => trivial) (fun _ _ => ⟨rfl, rfl⟩) (fun _ _ => ⟨_, rfl, zbc 0 0 ⟨#[]⟩, trivial, rfl, zaa [] rfl rfl rfl rfl (Nat.zero_le _) ⟨⟨_, rfl, rfl⟩, trivial⟩ trivial ⟨⟨Up.true, fun _ _ => trivial⟩, trivial⟩⟩)⟩
 | true =>
 have hspec : R = some x0 := hspec
 subst hspec
 refine zac [] hn2 rfl trivial rfl rfl (fun _ _ => trivial) (fun _ _ => ⟨rfl, rfl⟩) (fun _ _ => ?_)
 refine zac [1, 2] (zgm _ _ _ _ _ true) rfl ⟨rfl, rfl, trivial⟩ rfl rfl (fun _ _ => trivial) (fun _ _ => ⟨rfl, rfl⟩) (fun _ _ => ?_)
 refine ⟨_, rfl, TT.mk xk xn xnm xla xlc xls xaa xac xus, hx, rfl, ?_⟩
 exact zaa [] rfl rfl rfl rfl (Nat.zero_le _) ⟨⟨_, rfl, rfl⟩, trivial⟩ trivial ⟨⟨TTIn.upS _, fun w h => h.2.2.2.1⟩, trivial⟩
set_option maxHeartbeats 4000000 in
theorem zv2 (f : FuncId) (c1 : Value) (pre : World -> Prop) (hpre : Up pre) (φ : Tm -> Int -> Option (Option Tm))
  (hφ : ∀ (t : TT) (d : Int), tmB t.tm -> zaw Tryd.prog f [ttA t, .one (.v (.int .i64 d)), .one (.v c1)] [] 0 (fun w => pre w /\ TTIn w t) (ze2 (φ t.tm d)) (zb5 (φ t.tm d))) (t : TT) (hB : tmB t.tm) :
  zaw Tryd.prog 79 [ttA t, .one (.fn f [] [.v c1])] [] 0 (fun w => (ML w /\ pre w) /\ TTIn w t) (ze2 (some (zd4 φ t.tm))) (zb5 (some (zd4 φ t.tm))) := by
 have hr := zb2 t
 have hw := zvm f c1 pre hpre φ hφ t 0 3000 hB
 have hspec := show zd4 φ t.tm = _ by rw [zd4]
 obtain ⟨R, hR⟩ : ∃ R, zd4 φ t.tm = R := ⟨_, rfl⟩
 rw [hR] at hspec ⊢
 obtain ⟨b1, hb1⟩ : ∃ b, zaz t.tm = b := ⟨_, rfl⟩
 rw [hb1] at hspec
 rw [show zbf 4 1099511627776 t.tm = b1 from hb1] at hr
 obtain ⟨W, hW⟩ : ∃ W, zdd φ t.tm 0 3000 = W := ⟨_, rfl⟩
 rw [hW] at hspec hw
 clear hR hb1 hW
 obtain ⟨k, n, s, la, lc, ls, aa, ac, us⟩ := t
 have hn1 := zg2 b1
 refine zr2 ((ML.up.and hpre).and (TTIn.upS _)) _ _ fun c2 hc2 => ?_
 cases hc2
 cases b1 with
 | false =>
  have hspec : R = none := hspec
  subst hspec
  refine zaf zab [] _ _ _ ?_
  refine zae hr (fun _ => rfl) (fun w h => ⟨h.1.1.1, h.1.2⟩) ?_
  rintro r rfl
  refine zac [] hn1 rfl trivial rfl rfl (fun _ _ => trivial) (fun _ _ => ⟨rfl, rfl⟩) (fun _ _ => ?_)
  exact ⟨rfl, zac [1, 2] (zbv _ _ _ _ _ false) rfl ⟨rfl, rfl, trivial⟩ rfl rfl (fun _ _ => trivial) (fun _ _ => ⟨rfl, rfl⟩) (fun _ _ => ⟨_, rfl, zbc 0 0 ⟨#[]⟩, trivial, rfl, zaa [] rfl rfl rfl rfl (Nat.zero_le _) ⟨⟨_, rfl, rfl⟩, trivial⟩ trivial ⟨⟨Up.true, fun _ _ => trivial⟩, trivial⟩⟩)⟩
 | true =>
 have hspec : R = zvy W := hspec
 refine zaf zab [] _ _ _ ?_
 refine zae hr (fun _ => rfl) (fun w h => ⟨h.1.1.1, h.1.2⟩) ?_
 rintro r rfl
 refine zac [] hn1 rfl trivial rfl rfl (fun _ _ => trivial) (fun _ _ => ⟨rfl, rfl⟩) (fun _ _ => ?_)
 cases W with
 | none =>
  have hspec : R = none := hspec
  subst hspec
  refine zac [3] hw rfl ⟨rfl, trivial⟩ rfl rfl (fun w h => ⟨h.2.2.1.1.2, h.2.2.1.2⟩) (fun _ _ => ⟨rfl, rfl⟩) (fun _ _ => ?_)
  exact ⟨rfl, zac [1, 2] (zbv _ _ _ _ _ false) rfl ⟨rfl, rfl, trivial⟩ rfl rfl (fun _ _ => trivial) (fun _ _ => ⟨rfl, rfl⟩) (fun _ _ => ⟨_, rfl, zbc 0 0 ⟨#[]⟩, trivial, rfl, zaa [] rfl rfl rfl rfl (Nat.zero_le _) ⟨⟨_, rfl, rfl⟩, trivial⟩ trivial ⟨⟨Up.true, fun _ _ => trivial⟩, trivial⟩⟩)⟩
 | some q =>
 obtain ⟨x0, l2⟩ := q
 have hspec : R = zut x0 (zaz x0) := hspec
 refine zac [3] hw rfl ⟨rfl, trivial⟩ rfl rfl (fun w h => ⟨h.2.2.1.1.2, h.2.2.1.2⟩) (fun x _ => ?_) (fun x hx => ?_)
 ·obtain ⟨xk, xn, xnm, xla, xlc, xls, xaa, xac, xus⟩ := x
  exact ⟨rfl, rfl⟩
 have hx : x.tm = x0 := hx
 have hr2 := zb2 x
 obtain ⟨b2, hb2⟩ : ∃ b, zaz x0 = b := ⟨_, rfl⟩
 rw [hx, show zbf 4 1099511627776 x0 = b2 from hb2] at hr2
 rw [hb2] at hspec
 have hn2 := zg2 b2
 obtain ⟨xk, xn, xnm, xla, xlc, xls, xaa, xac, xus⟩ := x
 refine zae hr2 (fun _ => rfl) (fun w h => ⟨h.2.2.2.1.1.1, h.1⟩) ?_
 rintro r rfl
 cases b2 with
 | false =>
  have hspec : R = none := hspec
  subst hspec
  refine zac [] hn2 rfl trivial rfl rfl (fun _ _ => trivial) (fun _ _ => ⟨rfl, rfl⟩) (fun _ _ => ?_)
  exact ⟨rfl, zac [1, 2] (zbv _ _ _ _ _ false) rfl ⟨rfl, rfl, trivial⟩ rfl rfl (fun _ _ => trivial) (fun _ _ => ⟨rfl, rfl⟩) (fun _ _ => ⟨_, rfl, zbc 0 0 ⟨#[]⟩, trivial, rfl, zaa [] rfl rfl rfl rfl (Nat.zero_le _) ⟨⟨_, rfl, rfl⟩, trivial⟩ trivial ⟨⟨Up.true, fun _ _ => trivial⟩, trivial⟩⟩)⟩
 | true =>
 have hspec : R = some x0 := hspec
 subst hspec
 refine zac [] hn2 rfl trivial rfl rfl (fun _ _ => trivial) (fun _ _ => ⟨rfl, rfl⟩) (fun _ _ => ?_)
 refine zac [1, 2] (zgm _ _ _ _ _ true) rfl ⟨rfl, rfl, trivial⟩ rfl rfl (fun _ _ => trivial) (fun _ _ => ⟨rfl, rfl⟩) (fun _ _ => ?_)
 refine ⟨_, rfl, TT.mk xk xn xnm xla xlc xls xaa xac xus, hx, rfl, ?_⟩
 exact zaa [] rfl rfl rfl rfl (Nat.zero_le _) ⟨⟨_, rfl, rfl⟩, trivial⟩ trivial ⟨⟨TTIn.upS _, fun w h => h.2.2.2.1⟩, trivial⟩
end Go.Proofs.YtmkpiekbpakigaaDoor
end
section
set_option linter.unusedVariables false
set_option linter.unusedSimpArgs false
namespace Go.Proofs.YtmkpiekbpakigaaDoor
open Go.RowKit Go.Proofs.Base Go.Proofs.Sym
theorem zfn {w : World} {g3 g2 : Nat} {by' fr : Int} (h3 : SlAt w (some ⟨g3, 0, none⟩) [.int .i64 fr]) (h2 : SlAt w (some ⟨g2, 0, none⟩) [.int .i64 by']) : zfk ⟨g3, 0, none⟩ ⟨g2, 0, none⟩ by' fr w := by
 obtain ⟨a, ha, hc⟩ := h3 0 _ rfl
 obtain ⟨b, hb, hd⟩ := h2 0 _ rfl
 cases ha
 cases hb
 exact ⟨hc, hd⟩
def zif (by' fr : Int) : Bool := ((decide (by' < -1099511627776) || decide (1099511627776 < by')) || decide (fr < 0)) || decide (1099511627776 < fr)
def zel (o : Option Tm) : Bool -> Option Tm
 | true => none
 | false => o
def zex (by' fr : Int) (t : Tm) : Option Tm := zel (zd4 (zcm by' fr) t) (zif by' fr)
set_option maxHeartbeats 4000000 in
theorem zg1 (t : TT) (by' fr : Int) (hB : tmB t.tm) : zaw Tryd.prog 39 [ttA t, .one (.v (.int .i64 by')), .one (.v (.int .i64 fr))] [] 0 (fun w => ML w /\ TTIn w t) (ze2 (some (zex by' fr t.tm))) (zb5 (some (zex by' fr t.tm))) := by
 have hmade := fun a1 a2 => zkz 126 (.pointer (some a1)) (.pointer (some a2)) (zfk a1 a2 by' fr) (zfk.up _ _ _ _) (zcm by' fr) (fun t d _ => zjn a1 a2 by' fr t d) t hB
 have hspec := show zex by' fr t.tm = _ by rw [zex]
 obtain ⟨R, hR⟩ : ∃ R, zex by' fr t.tm = R := ⟨_, rfl⟩
 rw [hR] at hspec ⊢
 obtain ⟨o, ho⟩ : ∃ o, zd4 (zcm by' fr) t.tm = o := ⟨_, rfl⟩
 rw [ho] at hspec hmade
 clear hR ho hB
 have hs : ∀ b1 b2 b3 b4, decide (by' < -1099511627776) = b1 -> decide (1099511627776 < by') = b2 -> decide (fr < 0) = b3 -> decide (1099511627776 < fr) = b4 -> R = zel o (((b1 || b2) || b3) || b4) := by
  intro b1 b2 b3 b4 e1 e2 e3 e4
  rw [hspec, zif, e1, e2, e3, e4]
 clear hspec
 obtain ⟨k, n, s, la, lc, ls, aa, ac, us⟩ := t
 refine zav zab 30 [.cell 6 41, .tmp 7] Tryd.func39 rfl rfl (by kernel_rfl) rfl _ (leB rfl) (ML.up.and (TTIn.upS _)) ?_
 refine zaf zab [3] _ _ _ ?_
 refine zad (fun h => ?_) (fun h => ?_)
 ·have h : decide (by' < -1099511627776) = true := h
  have e : R = none := (hs _ _ _ _ h rfl rfl rfl).trans (by simp [zel])
  subst e
  exact ⟨_, rfl, zbc 0 0 ⟨#[]⟩, trivial, rfl, zaa [] rfl rfl rfl rfl (Nat.zero_le _) ⟨⟨_, rfl, rfl⟩, trivial⟩ trivial ⟨⟨Up.true, fun _ _ => trivial⟩, trivial⟩⟩
 have h1 : decide (by' < -1099511627776) = false := h
 refine zad (fun h => ?_) (fun h => ?_)
 ·have h : decide (1099511627776 < by') = true := h
  have e : R = none := (hs _ _ _ _ h1 h rfl rfl).trans (by simp [zel])
  subst e
  exact ⟨_, rfl, zbc 0 0 ⟨#[]⟩, trivial, rfl, zaa [] rfl rfl rfl rfl (Nat.zero_le _) ⟨⟨_, rfl, rfl⟩, trivial⟩ trivial ⟨⟨Up.true, fun _ _ => trivial⟩, trivial⟩⟩
 have h2 : decide (1099511627776 < by') = false := h
 refine zad (fun h => ?_) (fun h => ?_)
 ·have h : decide (fr < 0) = true := h
  have e : R = none := (hs _ _ _ _ h1 h2 h rfl).trans (by simp [zel])
  subst e
  exact ⟨_, rfl, zbc 0 0 ⟨#[]⟩, trivial, rfl, zaa [] rfl rfl rfl rfl (Nat.zero_le _) ⟨⟨_, rfl, rfl⟩, trivial⟩ trivial ⟨⟨Up.true, fun _ _ => trivial⟩, trivial⟩⟩
 have h3 : decide (fr < 0) = false := h
 refine zad (fun h => ?_) (fun h => ?_)
 ·have h : decide (1099511627776 < fr) = true := h
  have e : R = none := (hs _ _ _ _ h1 h2 h3 h).trans (by simp [zel])
  subst e
  exact ⟨_, rfl, zbc 0 0 ⟨#[]⟩, trivial, rfl, zaa [] rfl rfl rfl rfl (Nat.zero_le _) ⟨⟨_, rfl, rfl⟩, trivial⟩ trivial ⟨⟨Up.true, fun _ _ => trivial⟩, trivial⟩⟩
 have h4 : decide (1099511627776 < fr) = false := h
 have e : R = o := hs _ _ _ _ h1 h2 h3 h4
 subst e
 clear hs h1 h2 h3 h4
 refine zai.ent (st' := { s := [(3, .one (.p 0 0)), (1, .one (.v (.int .i64 by'))), (2, .one (.v (.int .i64 fr))), (6, .one (.p 1 0)), (7, .one (.v (.bool false)))], m := [(0, .cells 41 ((TT.mk k n s la lc ls aa ac us).cells.map SA.v)), (1, .cells 41 zap)], k := 2, f := [fun w => ML w /\ TTIn w (TT.mk k n s la lc ls aa ac us)] }) (zaa [(0, .blk 0), (1, .blk 1)] rfl rfl rfl rfl (leB rfl) (rs rfl rfl) (rm rfl rfl) ⟨⟨ML.up.and (TTIn.upS _), fun w h => h.1⟩, trivial⟩) ?_
 cases R with
 | none =>
  refine zaf zab [] _ _ _ ?_
  let hS : List (Nat × SV) := [(3, .one (.p 0 0)), (1, .one (.v (.int .i64 by'))), (2, .one (.v (.int .i64 fr))), (6, .one (.p 1 0)), (7, .one (.v (.bool false)))]
  let hM : List (Nat × LB) := [(0, .cells 41 ((TT.mk k n s la lc ls aa ac us).cells.map SA.v)), (1, .cells 41 zap)]
  let hF : List (World -> Prop) := [fun w => ML w /\ TTIn w (TT.mk k n s la lc ls aa ac us)]
  let x3 : Nat × SV := (26, .one (.fn 126 [] [.p 3, .p 2]))
  let m3a : Nat × LB := (2, .cells 3 [.v (.int .i64 by')])
  let m3b : Nat × LB := (3, .cells 3 [.v (.int .i64 fr)])
  let f3 : World -> Prop := fun _ => True
  refine .inr ⟨[0, 0, 0, 6, 15, 31, 31, 127, 255], [3, 4, 5, 6, 7, 8], [(0, { dst := some 23, v := ttA (TT.mk k n s la lc ls aa ac us), p := none, f := none }), (1, { dst := some 24, v := .one (.v (.int .i64 by')), p := none, f := none }), (2, { dst := some 25, v := .one (.v (.int .i64 fr)), p := none, f := none })], by kernel_rfl, rfl, by kernel_rfl, by kernel_rfl, rfl, rfl, rfl, rfl, ?_⟩
  refine zam ({ s := hS, m := hM, k := 2, f := hF }) [3] rfl (by kernel_rfl) (by kernel_rfl) ⟨⟨rfl, rfl⟩, ⟨rfl, rfl⟩, ⟨rfl, rfl⟩, trivial⟩ ⟨?_, trivial⟩
  refine ⟨_, rfl, rfl, _, rfl, ?_⟩
  refine zac [] (zd9 by' fr) rfl trivial rfl rfl (fun _ _ => trivial) (fun _ _ => ⟨rfl, rfl⟩) (fun _ _ => ?_)
  refine zam ({ s := x3 :: hS, m := m3a :: m3b :: hM, k := 4, f := f3 :: hF }) [4] rfl (by kernel_rfl) (by kernel_rfl) ⟨⟨rfl, rfl⟩, ⟨rfl, trivial⟩, ⟨rfl, trivial⟩, trivial⟩ ⟨?_, trivial⟩
  refine ⟨_, rfl, rfl, _, rfl, ?_⟩
  refine zat 2 (vs := [.int .i64 by']) rfl rfl (fun g2 => ?_)
  refine zat 3 (vs := [.int .i64 fr]) rfl rfl (fun g3 => ?_)
  have hm := hmade ⟨g3, 0, none⟩ ⟨g2, 0, none⟩
  refine zac [] hm rfl trivial rfl rfl (fun w h => ⟨⟨h.2.2.2.1.1, zfn h.1 h.2.1⟩, h.2.2.2.1.2⟩) (fun _ _ => ⟨rfl, rfl⟩) (fun x _ => ?_)
  let x4 : Nat × SV := (27, .tup [.agg zap, .one (.v (.bool false))])
  let m4a : Nat × LB := (3, .dead)
  let m4b : Nat × LB := (2, .dead)
  let f4 : World -> Prop := fun _ => True
  let f4a : World -> Prop := fun w => SlAt w (some ⟨g3, 0, none⟩) [.int .i64 fr]
  let f4b : World -> Prop := fun w => SlAt w (some ⟨g2, 0, none⟩) [.int .i64 by']
  let x5 : Nat × SV := (28, .agg zap)
  let x6 : Nat × SV := (29, .one (.v (.bool false)))
  let m7a : Nat × LB := (1, .cells 41 zap)
  let x8 : Nat × SV := (7, .one (.v (.bool false)))
  refine zam ({ s := x4 :: x3 :: hS, m := m4a :: m4b :: m3a :: m3b :: hM, k := 4, f := f4 :: f4a :: f4b :: f3 :: hF }) [5, 6] rfl (by kernel_rfl) (by kernel_rfl) ⟨⟨rfl, trivial⟩, ⟨rfl, trivial⟩, ⟨rfl, trivial⟩, trivial⟩ ⟨?_, ?_, trivial⟩
  ·refine ⟨_, rfl, rfl, _, rfl, ?_⟩
   refine zam ({ s := x5 :: x4 :: x3 :: hS, m := m4a :: m4b :: m3a :: m3b :: hM, k := 4, f := f4 :: f4a :: f4b :: f3 :: hF }) [6] rfl (by kernel_rfl) (by kernel_rfl) ⟨⟨rfl, trivial⟩, ⟨rfl, trivial⟩, ⟨rfl, trivial⟩, trivial⟩ ⟨?_, trivial⟩
   refine ⟨_, rfl, rfl, _, rfl, ?_⟩
   refine zam ({ s := x6 :: x5 :: x4 :: x3 :: hS, m := m4a :: m4b :: m3a :: m3b :: hM, k := 4, f := f4 :: f4a :: f4b :: f3 :: hF }) [7] rfl (by kernel_rfl) (by kernel_rfl) ⟨⟨rfl, trivial⟩, ⟨rfl, trivial⟩, ⟨rfl, trivial⟩, trivial⟩ ⟨?_, trivial⟩
   refine ⟨_, rfl, rfl, _, rfl, ?_⟩
   refine zam ({ s := x6 :: x5 :: x4 :: x3 :: hS, m := m7a :: m4a :: m4b :: m3a :: m3b :: hM, k := 4, f := f4 :: f4a :: f4b :: f3 :: hF }) [8] rfl (by kernel_rfl) (by kernel_rfl) ⟨⟨rfl, trivial⟩, ⟨rfl, trivial⟩, ⟨rfl, trivial⟩, trivial⟩ ⟨?_, trivial⟩
   refine ⟨_, rfl, rfl, _, rfl, ?_⟩
   refine zcj _ rfl (by kernel_rfl) ⟨⟨rfl, trivial⟩, ⟨rfl, trivial⟩, ⟨rfl, trivial⟩, trivial⟩ ?_
   exact ⟨_, rfl, x, trivial, rfl, zaa [] rfl rfl rfl rfl (Nat.zero_le _) ⟨⟨_, rfl, rfl⟩, trivial⟩ trivial ⟨⟨Up.true, fun _ _ => trivial⟩, trivial⟩⟩
  ·refine ⟨_, rfl, rfl, _, rfl, ?_⟩
   refine zam ({ s := x6 :: x4 :: x3 :: hS, m := m4a :: m4b :: m3a :: m3b :: hM, k := 4, f := f4 :: f4a :: f4b :: f3 :: hF }) [5] rfl (by kernel_rfl) (by kernel_rfl) ⟨⟨rfl, trivial⟩, ⟨rfl, trivial⟩, ⟨rfl, trivial⟩, trivial⟩ ⟨?_, trivial⟩
   refine ⟨_, rfl, rfl, _, rfl, ?_⟩
   refine zam ({ s := x5 :: x6 :: x4 :: x3 :: hS, m := m4a :: m4b :: m3a :: m3b :: hM, k := 4, f := f4 :: f4a :: f4b :: f3 :: hF }) [7] rfl (by kernel_rfl) (by kernel_rfl) ⟨⟨rfl, trivial⟩, ⟨rfl, trivial⟩, ⟨rfl, trivial⟩, trivial⟩ ⟨?_, trivial⟩
   refine ⟨_, rfl, rfl, _, rfl, ?_⟩
   refine zam ({ s := x5 :: x6 :: x4 :: x3 :: hS, m := m7a :: m4a :: m4b :: m3a :: m3b :: hM, k := 4, f := f4 :: f4a :: f4b :: f3 :: hF }) [8] rfl (by kernel_rfl) (by kernel_rfl) ⟨⟨rfl, trivial⟩, ⟨rfl, trivial⟩, ⟨rfl, trivial⟩, trivial⟩ ⟨?_, trivial⟩
   refine ⟨_, rfl, rfl, _, rfl, ?_⟩
   refine zcj _ rfl (by kernel_rfl) ⟨⟨rfl, trivial⟩, ⟨rfl, trivial⟩, ⟨rfl, trivial⟩, trivial⟩ ?_
   exact ⟨_, rfl, x, trivial, rfl, zaa [] rfl rfl rfl rfl (Nat.zero_le _) ⟨⟨_, rfl, rfl⟩, trivial⟩ trivial ⟨⟨Up.true, fun _ _ => trivial⟩, trivial⟩⟩
 | some x0 =>
  refine zaf zab [] _ _ _ ?_
  let hS : List (Nat × SV) := [(3, .one (.p 0 0)), (1, .one (.v (.int .i64 by'))), (2, .one (.v (.int .i64 fr))), (6, .one (.p 1 0)), (7, .one (.v (.bool false)))]
  let hM : List (Nat × LB) := [(0, .cells 41 ((TT.mk k n s la lc ls aa ac us).cells.map SA.v)), (1, .cells 41 zap)]
  let hF : List (World -> Prop) := [fun w => ML w /\ TTIn w (TT.mk k n s la lc ls aa ac us)]
  let x3 : Nat × SV := (26, .one (.fn 126 [] [.p 3, .p 2]))
  let m3a : Nat × LB := (2, .cells 3 [.v (.int .i64 by')])
  let m3b : Nat × LB := (3, .cells 3 [.v (.int .i64 fr)])
  let f3 : World -> Prop := fun _ => True
  refine .inr ⟨[0, 0, 0, 6, 15, 31, 31, 127, 255], [3, 4, 5, 6, 7, 8], [(0, { dst := some 23, v := ttA (TT.mk k n s la lc ls aa ac us), p := none, f := none }), (1, { dst := some 24, v := .one (.v (.int .i64 by')), p := none, f := none }), (2, { dst := some 25, v := .one (.v (.int .i64 fr)), p := none, f := none })], by kernel_rfl, rfl, by kernel_rfl, by kernel_rfl, rfl, rfl, rfl, rfl, ?_⟩
  refine zam ({ s := hS, m := hM, k := 2, f := hF }) [3] rfl (by kernel_rfl) (by kernel_rfl) ⟨⟨rfl, rfl⟩, ⟨rfl, rfl⟩, ⟨rfl, rfl⟩, trivial⟩ ⟨?_, trivial⟩
  refine ⟨_, rfl, rfl, _, rfl, ?_⟩
  refine zac [] (zd9 by' fr) rfl trivial rfl rfl (fun _ _ => trivial) (fun _ _ => ⟨rfl, rfl⟩) (fun _ _ => ?_)
  refine zam ({ s := x3 :: hS, m := m3a :: m3b :: hM, k := 4, f := f3 :: hF }) [4] rfl (by kernel_rfl) (by kernel_rfl) ⟨⟨rfl, rfl⟩, ⟨rfl, trivial⟩, ⟨rfl, trivial⟩, trivial⟩ ⟨?_, trivial⟩
  refine ⟨_, rfl, rfl, _, rfl, ?_⟩
  refine zat 2 (vs := [.int .i64 by']) rfl rfl (fun g2 => ?_)
  refine zat 3 (vs := [.int .i64 fr]) rfl rfl (fun g3 => ?_)
  have hm := hmade ⟨g3, 0, none⟩ ⟨g2, 0, none⟩
  refine zac [] hm rfl trivial rfl rfl (fun w h => ⟨⟨h.2.2.2.1.1, zfn h.1 h.2.1⟩, h.2.2.2.1.2⟩) (fun x _ => ?_) (fun x hx => ?_)
  ·obtain ⟨vk, vn, vnm, vla, vlc, vls, vaa, vac, vus⟩ := x
   exact ⟨rfl, rfl⟩
  obtain ⟨vk, vn, vnm, vla, vlc, vls, vaa, vac, vus⟩ := x
  let x4 : Nat × SV := (27, .tup [.agg ((TT.mk vk vn vnm vla vlc vls vaa vac vus).cells.map SA.v), .one (.v (.bool true))])
  let m4a : Nat × LB := (3, .dead)
  let m4b : Nat × LB := (2, .dead)
  let f4 : World -> Prop := fun w => TTIn w (TT.mk vk vn vnm vla vlc vls vaa vac vus)
  let f4a : World -> Prop := fun w => SlAt w (some ⟨g3, 0, none⟩) [.int .i64 fr]
  let f4b : World -> Prop := fun w => SlAt w (some ⟨g2, 0, none⟩) [.int .i64 by']
  let x5 : Nat × SV := (28, .agg ((TT.mk vk vn vnm vla vlc vls vaa vac vus).cells.map SA.v))
  let x6 : Nat × SV := (29, .one (.v (.bool true)))
  let m7a : Nat × LB := (1, .cells 41 ((TT.mk vk vn vnm vla vlc vls vaa vac vus).cells.map SA.v))
  let x8 : Nat × SV := (7, .one (.v (.bool true)))
  refine zam ({ s := x4 :: x3 :: hS, m := m4a :: m4b :: m3a :: m3b :: hM, k := 4, f := f4 :: f4a :: f4b :: f3 :: hF }) [5, 6] rfl (by kernel_rfl) (by kernel_rfl) ⟨⟨rfl, trivial⟩, ⟨rfl, trivial⟩, ⟨rfl, trivial⟩, trivial⟩ ⟨?_, ?_, trivial⟩
  ·refine ⟨_, rfl, rfl, _, rfl, ?_⟩
   refine zam ({ s := x5 :: x4 :: x3 :: hS, m := m4a :: m4b :: m3a :: m3b :: hM, k := 4, f := f4 :: f4a :: f4b :: f3 :: hF }) [6] rfl (by kernel_rfl) (by kernel_rfl) ⟨⟨rfl, trivial⟩, ⟨rfl, trivial⟩, ⟨rfl, trivial⟩, trivial⟩ ⟨?_, trivial⟩
   refine ⟨_, rfl, rfl, _, rfl, ?_⟩
   refine zam ({ s := x6 :: x5 :: x4 :: x3 :: hS, m := m4a :: m4b :: m3a :: m3b :: hM, k := 4, f := f4 :: f4a :: f4b :: f3 :: hF }) [7] rfl (by kernel_rfl) (by kernel_rfl) ⟨⟨rfl, trivial⟩, ⟨rfl, trivial⟩, ⟨rfl, trivial⟩, trivial⟩ ⟨?_, trivial⟩
   refine ⟨_, rfl, rfl, _, rfl, ?_⟩
   refine zam ({ s := x6 :: x5 :: x4 :: x3 :: hS, m := m7a :: m4a :: m4b :: m3a :: m3b :: hM, k := 4, f := f4 :: f4a :: f4b :: f3 :: hF }) [8] rfl (by kernel_rfl) (by kernel_rfl) ⟨⟨rfl, trivial⟩, ⟨rfl, trivial⟩, ⟨rfl, trivial⟩, trivial⟩ ⟨?_, trivial⟩
   refine ⟨_, rfl, rfl, _, rfl, ?_⟩
   refine zcj _ rfl (by kernel_rfl) ⟨⟨rfl, trivial⟩, ⟨rfl, trivial⟩, ⟨rfl, trivial⟩, trivial⟩ ?_
   exact ⟨_, rfl, (TT.mk vk vn vnm vla vlc vls vaa vac vus), hx, rfl, zaa [] rfl rfl rfl rfl (Nat.zero_le _) ⟨⟨_, rfl, rfl⟩, trivial⟩ trivial ⟨⟨TTIn.upS _, fun w h => h.1⟩, trivial⟩⟩
  ·refine ⟨_, rfl, rfl, _, rfl, ?_⟩
   refine zam ({ s := x6 :: x4 :: x3 :: hS, m := m4a :: m4b :: m3a :: m3b :: hM, k := 4, f := f4 :: f4a :: f4b :: f3 :: hF }) [5] rfl (by kernel_rfl) (by kernel_rfl) ⟨⟨rfl, trivial⟩, ⟨rfl, trivial⟩, ⟨rfl, trivial⟩, trivial⟩ ⟨?_, trivial⟩
   refine ⟨_, rfl, rfl, _, rfl, ?_⟩
   refine zam ({ s := x5 :: x6 :: x4 :: x3 :: hS, m := m4a :: m4b :: m3a :: m3b :: hM, k := 4, f := f4 :: f4a :: f4b :: f3 :: hF }) [7] rfl (by kernel_rfl) (by kernel_rfl) ⟨⟨rfl, trivial⟩, ⟨rfl, trivial⟩, ⟨rfl, trivial⟩, trivial⟩ ⟨?_, trivial⟩
   refine ⟨_, rfl, rfl, _, rfl, ?_⟩
   refine zam ({ s := x5 :: x6 :: x4 :: x3 :: hS, m := m7a :: m4a :: m4b :: m3a :: m3b :: hM, k := 4, f := f4 :: f4a :: f4b :: f3 :: hF }) [8] rfl (by kernel_rfl) (by kernel_rfl) ⟨⟨rfl, trivial⟩, ⟨rfl, trivial⟩, ⟨rfl, trivial⟩, trivial⟩ ⟨?_, trivial⟩
   refine ⟨_, rfl, rfl, _, rfl, ?_⟩
   refine zcj _ rfl (by kernel_rfl) ⟨⟨rfl, trivial⟩, ⟨rfl, trivial⟩, ⟨rfl, trivial⟩, trivial⟩ ?_
   exact ⟨_, rfl, (TT.mk vk vn vnm vla vlc vls vaa vac vus), hx, rfl, zaa [] rfl rfl rfl rfl (Nat.zero_le _) ⟨⟨_, rfl, rfl⟩, trivial⟩ trivial ⟨⟨TTIn.upS _, fun w h => h.1⟩, trivial⟩⟩
def zabw (o : Option (Tm × Int)) (x : TT) : LRes := match o with
 | none => { m := [], k := 0, ch := some zmp }
 | some _ => { v := ttA x, m := [], k := 0, F := fun w => TTIn w x }
set_option maxHeartbeats 4000000 in
theorem zyn (t : TT) (d : Int) (hB : tmB t.tm) : zaw Tryd.prog 85 [ttA t, .one (.v (.int .i64 d))] [] 0 (fun w => TTIn w t) (zzj (zdd (zcm d 0) t.tm 0 3000)) (zabw (zdd (zcm d 0) t.tm 0 3000)) := by
 have hwalk := fun a1 a2 => zp3 126 (.pointer (some a1)) (.pointer (some a2)) (zfk a1 a2 d 0) (zfk.up _ _ _ _) (zcm d 0) (fun t e _ => zjn a1 a2 d 0 t e) t 0 3000 hB
 obtain ⟨o, ho⟩ : ∃ o, zdd (zcm d 0) t.tm 0 3000 = o := ⟨_, rfl⟩
 rw [ho] at hwalk ⊢
 clear ho hB
 obtain ⟨k, n, s, la, lc, ls, aa, ac, us⟩ := t
 refine zav zab 10 [.cell 4 41] Tryd.func85 rfl rfl (by kernel_rfl) rfl _ (leB rfl) (TTIn.upS _) ?_
 refine zaf zab [2] _ _ _ ?_
 refine zai.ent (st' := { s := [(2, .one (.p 0 0)), (1, .one (.v (.int .i64 d))), (4, .one (.p 1 0)), (5, .one (.p 2 0))], m := [(0, .cells 41 ((TT.mk k n s la lc ls aa ac us).cells.map SA.v)), (1, .cells 41 zap), (2, .cells 3 [.v (.int .i64 3000)])], k := 3, f := [fun w => TTIn w (TT.mk k n s la lc ls aa ac us)] }) (zaa [(0, .blk 0), (1, .blk 1), (2, .blk 2)] rfl rfl rfl rfl (leB rfl) (rs rfl rfl) (rm rfl rfl) ⟨⟨TTIn.upS _, fun w h => h.1⟩, trivial⟩) ?_
 cases o with
 | none =>
  refine zaf zab [] _ _ _ ?_
  let hS : List (Nat × SV) := [(2, .one (.p 0 0)), (1, .one (.v (.int .i64 d))), (4, .one (.p 1 0)), (5, .one (.p 2 0))]
  let hM : List (Nat × LB) := [(0, .cells 41 ((TT.mk k n s la lc ls aa ac us).cells.map SA.v)), (1, .cells 41 zap), (2, .cells 3 [.v (.int .i64 3000)])]
  let hF : List (World -> Prop) := [fun w => TTIn w (TT.mk k n s la lc ls aa ac us)]
  let x2 : Nat × SV := (8, .one (.fn 126 [] [.p 4, .p 3]))
  let m2a : Nat × LB := (3, .cells 3 [.v (.int .i64 d)])
  let m2b : Nat × LB := (4, .cells 3 [.v (.int .i64 0)])
  let f2 : World -> Prop := fun _ => True
  refine .inr ⟨[0, 0, 2, 7, 15], [2, 3, 4], [(0, { dst := some 6, v := ttA (TT.mk k n s la lc ls aa ac us), p := none, f := none }), (1, { dst := some 7, v := .one (.v (.int .i64 d)), p := none, f := none })], by kernel_rfl, rfl, by kernel_rfl, by kernel_rfl, rfl, rfl, rfl, rfl, ?_⟩
  refine zam ({ s := hS, m := hM, k := 3, f := hF }) [2] rfl (by kernel_rfl) (by kernel_rfl) ⟨⟨rfl, rfl⟩, ⟨rfl, rfl⟩, trivial⟩ ⟨?_, trivial⟩
  refine ⟨_, rfl, rfl, _, rfl, ?_⟩
  refine zac [] (zd9 d 0) rfl trivial rfl rfl (fun _ _ => trivial) (fun _ _ => ⟨rfl, rfl⟩) (fun _ _ => ?_)
  refine zam ({ s := x2 :: hS, m := m2a :: m2b :: hM, k := 5, f := f2 :: hF }) [3] rfl (by kernel_rfl) (by kernel_rfl) ⟨⟨rfl, rfl⟩, ⟨rfl, trivial⟩, trivial⟩ ⟨?_, trivial⟩
  refine ⟨_, rfl, rfl, _, rfl, ?_⟩
  refine zat 3 (vs := [.int .i64 d]) rfl rfl (fun g2 => ?_)
  refine zat 4 (vs := [.int .i64 0]) rfl rfl (fun g3 => ?_)
  have hm := hwalk ⟨g3, 0, none⟩ ⟨g2, 0, none⟩
  refine zac [2] hm rfl ⟨rfl, trivial⟩ rfl rfl (fun w h => ⟨zfn h.1 h.2.1, h.2.2.2.1⟩) (fun _ _ => ⟨rfl, rfl⟩) (fun x _ => ?_)
  exact ⟨zbc 0 0 ⟨#[]⟩, trivial, rfl, zaa [] rfl rfl rfl rfl (Nat.zero_le _) ⟨⟨_, rfl, rfl⟩, trivial⟩ trivial ⟨⟨Up.true, fun _ _ => trivial⟩, trivial⟩⟩
 | some q =>
  obtain ⟨x0, l2⟩ := q
  refine zaf zab [] _ _ _ ?_
  let hS : List (Nat × SV) := [(2, .one (.p 0 0)), (1, .one (.v (.int .i64 d))), (4, .one (.p 1 0)), (5, .one (.p 2 0))]
  let hM : List (Nat × LB) := [(0, .cells 41 ((TT.mk k n s la lc ls aa ac us).cells.map SA.v)), (1, .cells 41 zap), (2, .cells 3 [.v (.int .i64 3000)])]
  let hF : List (World -> Prop) := [fun w => TTIn w (TT.mk k n s la lc ls aa ac us)]
  let x2 : Nat × SV := (8, .one (.fn 126 [] [.p 4, .p 3]))
  let m2a : Nat × LB := (3, .cells 3 [.v (.int .i64 d)])
  let m2b : Nat × LB := (4, .cells 3 [.v (.int .i64 0)])
  let f2 : World -> Prop := fun _ => True
  refine .inr ⟨[0, 0, 2, 7, 15], [2, 3, 4], [(0, { dst := some 6, v := ttA (TT.mk k n s la lc ls aa ac us), p := none, f := none }), (1, { dst := some 7, v := .one (.v (.int .i64 d)), p := none, f := none })], by kernel_rfl, rfl, by kernel_rfl, by kernel_rfl, rfl, rfl, rfl, rfl, ?_⟩
  refine zam ({ s := hS, m := hM, k := 3, f := hF }) [2] rfl (by kernel_rfl) (by kernel_rfl) ⟨⟨rfl, rfl⟩, ⟨rfl, rfl⟩, trivial⟩ ⟨?_, trivial⟩
  refine ⟨_, rfl, rfl, _, rfl, ?_⟩
  refine zac [] (zd9 d 0) rfl trivial rfl rfl (fun _ _ => trivial) (fun _ _ => ⟨rfl, rfl⟩) (fun _ _ => ?_)
  refine zam ({ s := x2 :: hS, m := m2a :: m2b :: hM, k := 5, f := f2 :: hF }) [3] rfl (by kernel_rfl) (by kernel_rfl) ⟨⟨rfl, rfl⟩, ⟨rfl, trivial⟩, trivial⟩ ⟨?_, trivial⟩
  refine ⟨_, rfl, rfl, _, rfl, ?_⟩
  refine zat 3 (vs := [.int .i64 d]) rfl rfl (fun g2 => ?_)
  refine zat 4 (vs := [.int .i64 0]) rfl rfl (fun g3 => ?_)
  have hm := hwalk ⟨g3, 0, none⟩ ⟨g2, 0, none⟩
  refine zac [2] hm rfl ⟨rfl, trivial⟩ rfl rfl (fun w h => ⟨zfn h.1 h.2.1, h.2.2.2.1⟩) (fun x _ => ?_) (fun x hx => ?_)
  ·obtain ⟨vk, vn, vnm, vla, vlc, vls, vaa, vac, vus⟩ := x
   exact ⟨rfl, rfl⟩
  obtain ⟨vk, vn, vnm, vla, vlc, vls, vaa, vac, vus⟩ := x
  let x3 : Nat × SV := (9, ttA (TT.mk vk vn vnm vla vlc vls vaa vac vus))
  let m3a : Nat × LB := (2, .cells 3 [.v (.int .i64 l2)])
  let m3b : Nat × LB := (2, .dead)
  let m3c : Nat × LB := (4, .dead)
  let m3d : Nat × LB := (3, .dead)
  let f3 : World -> Prop := fun w => TTIn w (TT.mk vk vn vnm vla vlc vls vaa vac vus)
  let f3a : World -> Prop := fun w => SlAt w (some ⟨g3, 0, none⟩) [.int .i64 0]
  let f3b : World -> Prop := fun w => SlAt w (some ⟨g2, 0, none⟩) [.int .i64 d]
  let m4a : Nat × LB := (1, .cells 41 ((TT.mk vk vn vnm vla vlc vls vaa vac vus).cells.map SA.v))
  refine zam ({ s := x3 :: x2 :: hS, m := m3a :: m3b :: m3c :: m3d :: m2a :: m2b :: hM, k := 5, f := f3 :: f3a :: f3b :: f2 :: hF }) [4] rfl (by kernel_rfl) (by kernel_rfl) ⟨⟨rfl, trivial⟩, ⟨rfl, trivial⟩, trivial⟩ ⟨?_, trivial⟩
  refine ⟨_, rfl, rfl, _, rfl, ?_⟩
  refine zcj _ rfl (by kernel_rfl) ⟨⟨rfl, trivial⟩, ⟨rfl, trivial⟩, trivial⟩ ?_
  exact ⟨_, rfl, (TT.mk vk vn vnm vla vlc vls vaa vac vus), hx, rfl, zaa [] rfl rfl rfl rfl (Nat.zero_le _) ⟨⟨_, rfl, rfl⟩, trivial⟩ trivial ⟨⟨TTIn.upS _, fun w h => h.1⟩, trivial⟩⟩
end Go.Proofs.YtmkpiekbpakigaaDoor
end
section
set_option linter.unusedVariables false
set_option linter.unusedSimpArgs false
namespace Go.Proofs.YtmkpiekbpakigaaDoor
open Go.RowKit Go.Proofs.Base Go.Proofs.Sym
theorem ziy {P : Program} {f : FuncId} {args : List SV} {st : St} {K : SV -> St -> Prop} {X : List PanicEntry -> St -> Prop} (i : Nat) {t : TypeId} {cs : List SA} {vs : List Value} (hi : get i st.m = some (.cells t cs)) (hp : ∀ e, reals e cs = vs)
  (h : ∀ g, zcb P f (args.map (sbV (blkA i g))) (sbSt (blkA i g) i (fun w => SlAt w (some ⟨g, 0, none⟩) vs) st) K X) : zcb P f args st K X := by
 refine zfl i fun cx e w hm => ⟨_, _, zeo rfl, h (e.blk i), hm.spell hi (zeo rfl) (SlAt.up _ _) ?_⟩
 intro j u hj
 have hb := zb3 (H := fun g => cx.H g \/ ∃ j, j ≠ i /\ At e st.m j g) (hm.cells i t cs hi) (hm.others ⟨_, hi, rfl⟩)
 refine ⟨_, rfl, ?_⟩
 rw [zbk, cell_of_row _ (e.blk i) (0 + j) _ _ _ hb, hp e]
 simpa using hj
structure TsIn (w : World) (A : Option Addr) (c : Nat) (us : List TT) : Prop where
 tts : TTs w A 0 us
 nil : A = none -> us.length = 0 /\ c = 0
 le : us.length <= c
 max : c <= maxLen
theorem TsIn.up (A : Option Addr) (c : Nat) (us : List TT) : Up fun w => TsIn w A c us := fun w w' h hb => ⟨TTs.up h A 0 us hb.tts, hb.nil, hb.le, hb.max⟩
theorem TsIn.arg {w : World} {A : Option Addr} {c : Nat} {us : List TT} (h : TsIn w A c us) {j : Nat} {t : TT} (hj : us[j]? = some t) :
  (∃ a, A = some a /\ ∀ l u, t.cells[l]? = some u -> w.cell? ((a.add (j * 5)).add l) = some u) /\ TTIn w t := by
 have := TTs.get h.tts hj
 rwa [Nat.zero_add] at this
def tIdx : List Tm -> Int -> Int
 | [], _ => -1
 | t :: r, j => match zaz t with
  | false => j
  | true => tIdx r (j + 1)
theorem zqg : ∀ (us : List Tm) (j : Int), 0 <= j -> decide (0 <= tIdx us j) = us.any fun u => !zaz u
 | [], _, _ => rfl
 | t :: r, j, h => by
  rw [tIdx, List.any_cons]
  cases zaz t with
  | false => simpa using h
  | true => simpa using zqg r (j + 1) (by omega)
def tsP (A : Option Addr) (c : Nat) (us : List TT) (w : World) : Prop := ML w /\ TsIn w A c us
theorem tsP.up (A : Option Addr) (c : Nat) (us : List TT) : Up (tsP A c us) := ML.up.and (TsIn.up _ _ _)
theorem zvc (A : Option Addr) (c : Nat) (us : List TT) : zaw Tryd.prog 127 [.one (.v (.slice A us.length c)), .one (.fn 82 [] [])] [] 0 (tsP A c us) (fun _ : Unit => True) (fun _ => { v := .one (.v (.int .i64 (tIdx (us.map TT.tm) 0))), m := [], k := 0 }) := by
 refine zav zab 19 [.tmp 4] Tryd.func127 rfl rfl (by kernel_rfl) rfl _ (leB rfl) (tsP.up _ _ _) ?_
 refine zai.told (p := us.length <= 9223372036854775807) (fun w h => Nat.le_trans h.1.2.le (Nat.le_trans h.1.2.max (by decide))) (fun hl => ?_)
 refine zaf zab [] _ _ _ ?_
 refine ⟨⟨Nat, fun j => j <= us.length /\ tIdx ((us.map TT.tm).drop j) j = tIdx (us.map TT.tm) 0,
  fun j => { s := [(0, .one (.v (.slice A us.length c))), (1, .one (.fn 82 [] [])), (7, .one (.v (.int .i64 (us.length : Int)))), (8, .one (.v (.int .i64 (j : Int))))], m := [], k := 0, f := [tsP A c us] },
  fun j => us.length - j, ⟨0, ⟨Nat.zero_le _, rfl⟩, ?_⟩, ?_⟩⟩
 ·exact zaa [] rfl rfl rfl rfl (Nat.le_refl _) ⟨⟨_, rfl, rfl⟩, ⟨_, rfl, rfl⟩, ⟨_, rfl, rfl⟩, ⟨_, rfl, rfl⟩, trivial⟩ trivial ⟨⟨tsP.up _ _ _, fun w h => h.1⟩, trivial⟩
 rintro j ⟨hj, hA⟩
 refine zad (fun hlt => ?_) (fun hge => ?_)
 ·have hlt : j < us.length := by
   have h : decide ((j : Int) < (us.length : Int)) = true := hlt
   have := of_decide_eq_true h
   omega
  obtain ⟨u, hu⟩ : ∃ u, us[j]? = some u := ⟨_, List.getElem?_eq_getElem hlt⟩
  have h2 := zrq u
  have hstep : tIdx (us.map TT.tm) 0 = match zaz u.tm with | false => (j : Int) | true => tIdx ((us.map TT.tm).drop (j + 1)) (j + 1) := by
   rw [<- hA, List.drop_eq_getElem_cons (by simpa using hlt), tIdx]
   simp [(List.getElem?_eq_some_iff.1 hu).2]
  obtain ⟨b, hb⟩ : ∃ b, zaz u.tm = b := ⟨_, rfl⟩
  rw [show zbf 4 1099511627776 u.tm = b from hb] at h2
  rw [hb] at hstep
  clear hb
  obtain ⟨uk, un, unm, ula, ulc, uls, uaa, uac, uus⟩ := u
  refine ⟨{ n := j }, ⟨rfl, hlt, fun w h => ?_⟩, ?_⟩
  ·obtain ⟨⟨a, ha, _⟩, _⟩ := h.1.2.arg hu
   rw [ha]; rfl
  refine ⟨{ cs := (TT.mk uk un unm ula ulc uls uaa uac uus).cells }, ⟨TT.cells_one (TT.mk uk un unm ula ulc uls uaa uac uus), rfl, fun w h => ?_⟩, ?_⟩
  ·obtain ⟨⟨a, ha, h3⟩, _⟩ := h.1.2.arg hu
   exact ⟨_, by rw [ha]; rfl, h3⟩
  refine zae h2 (fun _ => rfl) (fun w h => ⟨h.1.1, (h.1.2.arg hu).2⟩) ?_
  rintro r rfl
  cases b with
  | false =>
   have e : tIdx (us.map TT.tm) 0 = (j : Int) := hstep
   refine ⟨_, rfl, (), trivial, rfl, ?_⟩
   rw [e]
   exact zaa [] rfl rfl rfl rfl (Nat.le_refl _) ⟨⟨_, rfl, rfl⟩, trivial⟩ trivial ⟨⟨Up.true, fun _ _ => trivial⟩, trivial⟩
  | true =>
   refine ⟨j + 1, ⟨hlt, hstep.symm⟩, by simp only; omega, ?_⟩
   exact zaa [] rfl rfl rfl rfl (Nat.le_refl _) ⟨⟨_, rfl, rfl⟩, ⟨_, rfl, rfl⟩, ⟨_, rfl, rfl⟩, ⟨_, rfl, oneI (za6 (by omega) (by omega))⟩, trivial⟩ trivial ⟨⟨tsP.up _ _ _, fun w h => h.2.1⟩, trivial⟩
 ·have hge : us.length <= j := by
   have h : decide ((j : Int) < (us.length : Int)) = false := hge
   have := of_decide_eq_false h
   omega
  have hend : tIdx (us.map TT.tm) 0 = -1 := by
   rw [<- hA, List.drop_eq_nil_of_le (by simpa using hge)]
   rfl
  refine ⟨_, rfl, (), trivial, rfl, ?_⟩
  rw [hend]
  exact zaa [] rfl rfl rfl rfl (Nat.le_refl _) ⟨⟨_, rfl, rfl⟩, trivial⟩ trivial ⟨⟨Up.true, fun _ _ => trivial⟩, trivial⟩
theorem zw7 (A : Option Addr) (c : Nat) (us : List TT) : zaw Tryd.prog 81 [.one (.v (.slice A us.length c)), .one (.fn 82 [] [])] [] 0 (tsP A c us) (fun _ : Unit => True) (fun _ => { v := .one (.v (.bool ((us.map TT.tm).any fun u => !zaz u))), m := [], k := 0 }) := by
 have h2 := zvc A c us
 rw [<- zqg (us.map TT.tm) 0 (Int.le_refl _)]
 obtain ⟨x, hx⟩ : ∃ x, tIdx (us.map TT.tm) 0 = x := ⟨_, rfl⟩
 rw [hx] at h2 ⊢
 refine zav zab 9 [.tmp 4] Tryd.func81 rfl rfl (by kernel_rfl) rfl _ (leB rfl) (tsP.up _ _ _) ?_
 refine zaf zab [] _ _ _ ?_
 refine zac [] h2 rfl trivial rfl rfl (fun w h => h.1) (fun _ _ => ⟨rfl, rfl⟩) (fun _ _ => ?_)
 exact ⟨_, rfl, (), trivial, rfl, zaa [] rfl rfl rfl rfl (Nat.le_refl _) ⟨⟨_, rfl, rfl⟩, trivial⟩ trivial ⟨⟨Up.true, fun _ _ => trivial⟩, trivial⟩⟩
def zjv (m : Nat) : Tm -> Int -> Option (Option Tm)
 | .mk k n _ _ _, d => zkq (some (some (.mk 1 (IntKind.i64.wrap (n - (m : Int))) ⟨#[]⟩ [] []))) (decide (k = 1) && !decide (IntKind.i64.wrap (n - d) < (m : Int)))
def zw4 (a1 : Addr) (A : Option Addr) (m c : Nat) (w : World) : Prop := w.cell? a1 = some (.slice A m c)
theorem zw4.up (a1 : Addr) (A : Option Addr) (m c : Nat) : Up (zw4 a1 A m c) := Up.cell _ _
theorem zu5 (a1 : Addr) (A : Option Addr) (m c : Nat) (t : TT) (d : Int) : zaw Tryd.prog 83 [ttA t, .one (.v (.int .i64 d)), .one (.v (.pointer (some a1)))] [] 0 (fun w => zw4 a1 A m c w /\ TTIn w t) (ze2 (zjv m t.tm d)) (zb5 (zjv m t.tm d)) := by
 obtain ⟨k, n, s, la, lc, ls, aa, ac, us⟩ := t
 have hspec : ∀ b1 b2, decide (k = 1) = b1 -> decide (IntKind.i64.wrap (n - d) < (m : Int)) = b2 -> zjv m (TT.mk k n s la lc ls aa ac us).tm d = zkq (some (some (.mk 1 (IntKind.i64.wrap (n - (m : Int))) ⟨#[]⟩ [] []))) (b1 && !b2) := by
  intro b1 b2 e1 e2
  rw [zbt, zjv, e1, e2]
 obtain ⟨R, hR⟩ : ∃ R, zjv m (TT.mk k n s la lc ls aa ac us).tm d = R := ⟨_, rfl⟩
 rw [hR] at hspec ⊢
 clear hR
 refine zav zab 26 [.cell 5 41, .tmp 6] Tryd.func83 rfl rfl (by kernel_rfl) rfl _ (leB rfl) ((zw4.up _ _ _ _).and (TTIn.upS _)) ?_
 refine zaf zab [3] _ _ _ ?_
 refine zad (fun h => ?_) (fun h => ?_)
 ·have h1 : decide (k = 1) = false := by
   have h : (!decide (k = 1)) = true := h
   simpa using h
  have e := hspec _ _ h1 rfl
  subst e
  refine ⟨_, rfl, zbc 0 0 ⟨#[]⟩, trivial, rfl, ?_⟩
  exact zaa [] rfl rfl rfl rfl (Nat.zero_le _) ⟨⟨_, rfl, rfl⟩, trivial⟩ trivial ⟨⟨Up.true, fun _ _ => trivial⟩, trivial⟩
 have h1 : decide (k = 1) = true := by
  have h : (!decide (k = 1)) = false := h
  simpa using h
 refine ⟨{ v := .slice A m c }, fun w h => ⟨_, rfl, h.1.1⟩, ?_⟩
 refine zad (fun h => ?_) (fun h => ?_)
 ·have h2 : decide (IntKind.i64.wrap (n - d) < (m : Int)) = true := h
  have e := hspec _ _ h1 h2
  subst e
  refine ⟨_, rfl, zbc 0 0 ⟨#[]⟩, trivial, rfl, ?_⟩
  exact zaa [] rfl rfl rfl rfl (Nat.zero_le _) ⟨⟨_, rfl, rfl⟩, trivial⟩ trivial ⟨⟨Up.true, fun _ _ => trivial⟩, trivial⟩
 have h2 : decide (IntKind.i64.wrap (n - d) < (m : Int)) = false := h
 have e := hspec _ _ h1 h2
 subst e
 refine zaf zab [] _ _ _ ?_
 refine ⟨{ v := .slice A m c }, fun w h => ⟨_, rfl, h.1.1⟩, ?_⟩
 refine ⟨_, rfl, zbc 1 (IntKind.i64.wrap (n - (m : Int))) ⟨#[]⟩, ?_, rfl, ?_⟩
 ·show (zbc 1 (IntKind.i64.wrap (n - (m : Int))) ⟨#[]⟩).tm = _
  unfold zbc
  rw [zbt]
  rfl
 exact zaa [] rfl rfl rfl rfl (Nat.zero_le _) ⟨⟨_, rfl, rfl⟩, trivial⟩ trivial ⟨⟨TTIn.upS _, fun w h => zei w (by unfold I64; omega) (zh7 _) (by decide)⟩, trivial⟩
end Go.Proofs.YtmkpiekbpakigaaDoor
end
section
set_option linter.unusedVariables false
set_option linter.unusedSimpArgs false
namespace Go.Proofs.YtmkpiekbpakigaaDoor
open Go.RowKit Go.Proofs.Base Go.Proofs.Sym
def upO : Option (Tm × Int) -> Option (Option Tm)
 | none => none
 | some (u, _) => some (some u)
def znn (x y : Option (Option Tm)) : Bool -> Option (Option Tm)
 | true => x
 | false => y
def zrj (args : List Tm) (i : Nat) (d : Int) : Option (Option Tm) := match args[i]? with
 | some a => upO (zdd (zcm d 0) a 0 3000)
 | none => some none
def putR (args : List Tm) : Tm -> Int -> Option (Option Tm)
 | .mk k n s ls us, d => znn (zrj args (args.length - 1 - (IntKind.i64.wrap (n - d)).toNat) d) (zjv args.length (.mk k n s ls us) d) (decide (k = 1) && (decide (0 <= IntKind.i64.wrap (n - d)) && decide (IntKind.i64.wrap (n - d) < (args.length : Int))))
structure putP (a1 a2 : Addr) (A : Option Addr) (c : Nat) (us : List TT) (w : World) : Prop where
 h1 : w.cell? a1 = some (.slice A us.length c)
 h2 : w.cell? a2 = some (.func (.func 83) #[] #[.pointer (some a1)])
 h3 : TsIn w A c us
theorem putP.up (a1 a2 : Addr) (A : Option Addr) (c : Nat) (us : List TT) : Up (putP a1 a2 A c us) := fun w w' h hp => ⟨h.cell hp.h1, h.cell hp.h2, TsIn.up _ _ _ _ _ h hp.h3⟩
set_option maxHeartbeats 4000000 in
theorem zvs (a1 a2 : Addr) (A : Option Addr) (c : Nat) (gs : List TT) (hBs : ∀ u ∈ gs, tmB u.tm) (t : TT) (d : Int) : zaw Tryd.prog 84 [ttA t, .one (.v (.int .i64 d)), .one (.v (.pointer (some a1))), .one (.v (.pointer (some a2)))] [] 0 (fun w => putP a1 a2 A c gs w /\ TTIn w t) (ze2 (putR (gs.map TT.tm) t.tm d)) (zb5 (putR (gs.map TT.tm) t.tm d)) := by
 have hdown := zu5 a1 A gs.length c t d
 obtain ⟨k, n, s, la, lc, ls, aa, ac, us⟩ := t
 obtain ⟨q, hq⟩ : ∃ q, IntKind.i64.wrap (n - d) = q := ⟨_, rfl⟩
 have hqr : I64 q := hq ▸ zh7 _
 have hspec : ∀ b1 b2 b3, decide (k = 1) = b1 -> decide (0 <= q) = b2 -> decide (q < (gs.length : Int)) = b3 -> putR (gs.map TT.tm) (TT.mk k n s la lc ls aa ac us).tm d = znn (zrj (gs.map TT.tm) (gs.length - 1 - q.toNat) d) (zjv gs.length (TT.mk k n s la lc ls aa ac us).tm d) (b1 && (b2 && b3)) := by
  intro b1 b2 b3 e1 e2 e3
  rw [zbt, putR, List.length_map, hq, e1, e2, e3]
 obtain ⟨R, hR⟩ : ∃ R, putR (gs.map TT.tm) (TT.mk k n s la lc ls aa ac us).tm d = R := ⟨_, rfl⟩
 rw [hR] at hspec ⊢
 obtain ⟨D, hD⟩ : ∃ D, zjv gs.length (TT.mk k n s la lc ls aa ac us).tm d = D := ⟨_, rfl⟩
 rw [hD] at hspec hdown
 clear hR hD
 have hfalse : ∀ b, R = znn (zrj (gs.map TT.tm) (gs.length - 1 - q.toNat) d) D b -> b = false -> R = D := fun b h e => by
  rw [h, e]
  rfl
 refine zav zab 42 [.cell 6 41, .tmp 7] Tryd.func84 rfl rfl (by kernel_rfl) rfl _ (leB rfl) ((putP.up _ _ _ _ _).and (TTIn.upS _)) ?_
 refine zai.told (p := gs.length <= 9223372036854775807) (fun w h => Nat.le_trans h.1.1.h3.le (Nat.le_trans h.1.1.h3.max (by decide))) (fun hgl => ?_)
 refine zaf zab [1] _ _ _ ?_
 refine zai.cutX (X := Unit) (fun _ => R = D) (fun _ => { s := [(1, .one (.v (.int .i64 d))), (2, .one (.v (.pointer (some a1)))), (3, .one (.v (.pointer (some a2)))), (4, .one (.p 0 0)), (6, .one (.p 1 0)), (7, .one (.v (.bool false)))], m := [(0, .cells 41 ((TT.mk k n s la lc ls aa ac us).cells.map SA.v)), (1, .cells 41 zap)], k := 2, f := [fun w => putP a1 a2 A c gs w /\ TTIn w (TT.mk k n s la lc ls aa ac us)] }) ?_ ?_
 ·refine zaf zab [2] _ _ _ ?_
  refine zai.ent (st' := { s := [(1, .one (.v (.int .i64 d))), (2, .one (.v (.pointer (some a1)))), (3, .one (.v (.pointer (some a2)))), (4, .one (.p 0 0)), (6, .one (.p 1 0)), (7, .one (.v (.bool false))), (8, .one (.v (.int .i64 q)))], m := [(0, .cells 41 ((TT.mk k n s la lc ls aa ac us).cells.map SA.v)), (1, .cells 41 zap)], k := 2, f := [fun w => putP a1 a2 A c gs w /\ TTIn w (TT.mk k n s la lc ls aa ac us)] }) (zaa [(0, .blk 0), (1, .blk 1)] rfl rfl rfl rfl (leB rfl) ⟨⟨_, rfl, rfl⟩, ⟨_, rfl, rfl⟩, ⟨_, rfl, rfl⟩, ⟨_, rfl, rfl⟩, ⟨_, rfl, rfl⟩, ⟨_, rfl, rfl⟩, ⟨_, rfl, oneI hq⟩, trivial⟩ ⟨⟨_, rfl, rfl⟩, ⟨_, rfl, rfl⟩, trivial⟩ ⟨⟨(putP.up _ _ _ _ _).and (TTIn.upS _), fun w h => h.1⟩, trivial⟩) ?_
  clear hq
  refine zaf zab [] _ _ _ ?_
  refine zad (fun h1 => ?_) (fun h1 => ?_)
  rotate_left
  ·have h1 : decide (k = 1) = false := h1
   exact ⟨(), hfalse _ (hspec _ _ _ h1 rfl rfl) rfl, zaa [(0, .blk 0), (1, .blk 1)] rfl rfl rfl rfl (leB rfl) (rs rfl rfl) (rm rfl rfl) ⟨⟨(putP.up _ _ _ _ _).and (TTIn.upS _), fun w h => h.1⟩, trivial⟩⟩
  have h1 : decide (k = 1) = true := h1
  refine zad (fun h2 => ?_) (fun h2 => ?_)
  rotate_left
  ·have h2 : decide (0 <= q) = false := h2
   exact ⟨(), hfalse _ (hspec _ _ _ h1 h2 rfl) rfl, zaa [(0, .blk 0), (1, .blk 1)] rfl rfl rfl rfl (leB rfl) (rs rfl rfl) (rm rfl rfl) ⟨⟨(putP.up _ _ _ _ _).and (TTIn.upS _), fun w h => h.1⟩, trivial⟩⟩
  have h2 : decide (0 <= q) = true := h2
  refine ⟨{ v := .slice A gs.length c }, fun w h => ⟨_, rfl, h.1.1.h1⟩, ?_⟩
  refine zad (fun h3 => ?_) (fun h3 => ?_)
  rotate_left
  ·have h3 : decide (q < (gs.length : Int)) = false := h3
   exact ⟨(), hfalse _ (hspec _ _ _ h1 h2 h3) rfl, zaa [(0, .blk 0), (1, .blk 1)] rfl rfl rfl rfl (leB rfl) (rs rfl rfl) (rm rfl rfl) ⟨⟨(putP.up _ _ _ _ _).and (TTIn.upS _), fun w h => h.1⟩, trivial⟩⟩
  have h3 : decide (q < (gs.length : Int)) = true := h3
  have e := hspec _ _ _ h1 h2 h3
  have g2 := of_decide_eq_true h2
  have g3 := of_decide_eq_true h3
  clear hspec hfalse
  obtain ⟨i, hi⟩ : ∃ i, gs.length - 1 - q.toNat = i := ⟨_, rfl⟩
  have hil : i < gs.length := by omega
  obtain ⟨g, hg⟩ : ∃ g, gs[i]? = some g := ⟨_, List.getElem?_eq_getElem hil⟩
  have e : R = upO (zdd (zcm d 0) g.tm 0 3000) := by
   rw [e, hi]
   show zrj _ _ _ = _
   unfold zrj
   rw [List.getElem?_map, hg]
   rfl
  have hup := zyn g d (hBs g (List.mem_of_getElem? hg))
  obtain ⟨U, hU⟩ : ∃ U, zdd (zcm d 0) g.tm 0 3000 = U := ⟨_, rfl⟩
  rw [hU] at hup e
  clear hU
  have hidx : IntKind.i64.wrap (IntKind.i64.wrap ((gs.length : Int) - 1) - q) = (i : Int) := by
   rw [za6 (n := (gs.length : Int) - 1) (by omega) (by omega), za6 (by omega) (by omega)]
   omega
  clear h1 h2 h3
  refine ⟨{ v := .slice A gs.length c }, fun w h => ⟨_, rfl, h.1.1.h1⟩, ?_⟩
  refine ⟨{ v := .slice A gs.length c }, fun w h => ⟨_, rfl, h.1.1.h1⟩, ?_⟩
  refine ⟨{ n := i }, ⟨hidx, hil, fun w h => ?_⟩, ?_⟩
  ·obtain ⟨⟨a, ha, _⟩, _⟩ := h.1.1.h3.arg hg
   rw [ha]; rfl
  obtain ⟨gk, gn, gnm, gla, glc, gls, gaa, gac, gus⟩ := g
  refine ⟨{ cs := (TT.mk gk gn gnm gla glc gls gaa gac gus).cells }, ⟨TT.cells_one (TT.mk gk gn gnm gla glc gls gaa gac gus), rfl, fun w h => ?_⟩, ?_⟩
  ·obtain ⟨⟨a, ha, h3⟩, _⟩ := h.1.1.h3.arg hg
   exact ⟨_, by rw [ha]; rfl, h3⟩
  cases U with
  | none =>
   have e : R = none := e
   subst e
   refine zac [] hup rfl trivial rfl rfl (fun w h => (h.1.1.h3.arg hg).2) (fun _ _ => ⟨rfl, rfl⟩) (fun _ _ => ?_)
   exact ⟨zbc 0 0 ⟨#[]⟩, trivial, rfl, zaa [] rfl rfl rfl rfl (Nat.zero_le _) ⟨⟨_, rfl, rfl⟩, trivial⟩ trivial ⟨⟨Up.true, fun _ _ => trivial⟩, trivial⟩⟩
  | some y =>
   obtain ⟨y, l2⟩ := y
   have e : R = some (some y) := e
   subst e
   refine zac [] hup rfl trivial rfl rfl (fun w h => (h.1.1.h3.arg hg).2) (fun x _ => ?_) (fun x hx => ?_)
   ·obtain ⟨vk, vn, vnm, vla, vlc, vls, vaa, vac, vus⟩ := x
    exact ⟨rfl, rfl⟩
   obtain ⟨vk, vn, vnm, vla, vlc, vls, vaa, vac, vus⟩ := x
   exact ⟨_, rfl, (TT.mk vk vn vnm vla vlc vls vaa vac vus), hx, rfl, zaa [] rfl rfl rfl rfl (Nat.zero_le _) ⟨⟨_, rfl, rfl⟩, trivial⟩ trivial ⟨⟨TTIn.upS _, fun w h => h.1⟩, trivial⟩⟩
 ·intro _ e
  subst e
  cases R with
  | none =>
   refine zaf zab [] _ _ _ ?_
   refine ⟨{ v := .func (.func 83) #[] #[.pointer (some a1)] }, fun w h => ⟨_, rfl, h.1.1.h2⟩, ?_⟩
   refine zac [] hdown rfl trivial rfl rfl (fun w h => ⟨h.1.1.h1, h.1.2⟩) (fun _ _ => ⟨rfl, rfl⟩) (fun _ _ => ?_)
   exact ⟨zbc 0 0 ⟨#[]⟩, trivial, rfl, zaa [] rfl rfl rfl rfl (Nat.zero_le _) ⟨⟨_, rfl, rfl⟩, trivial⟩ trivial ⟨⟨Up.true, fun _ _ => trivial⟩, trivial⟩⟩
  | some o =>
  cases o with
  | none =>
   refine zaf zab [] _ _ _ ?_
   refine ⟨{ v := .func (.func 83) #[] #[.pointer (some a1)] }, fun w h => ⟨_, rfl, h.1.1.h2⟩, ?_⟩
   refine zac [] hdown rfl trivial rfl rfl (fun w h => ⟨h.1.1.h1, h.1.2⟩) (fun _ _ => ⟨rfl, rfl⟩) (fun _ _ => ?_)
   exact ⟨_, rfl, zbc 0 0 ⟨#[]⟩, trivial, rfl, zaa [] rfl rfl rfl rfl (Nat.zero_le _) ⟨⟨_, rfl, rfl⟩, trivial⟩ trivial ⟨⟨Up.true, fun _ _ => trivial⟩, trivial⟩⟩
  | some y =>
   refine zaf zab [] _ _ _ ?_
   refine ⟨{ v := .func (.func 83) #[] #[.pointer (some a1)] }, fun w h => ⟨_, rfl, h.1.1.h2⟩, ?_⟩
   refine zac [] hdown rfl trivial rfl rfl (fun w h => ⟨h.1.1.h1, h.1.2⟩) (fun x _ => ?_) (fun x hx => ?_)
   ·obtain ⟨vk, vn, vnm, vla, vlc, vls, vaa, vac, vus⟩ := x
    exact ⟨rfl, rfl⟩
   obtain ⟨vk, vn, vnm, vla, vlc, vls, vaa, vac, vus⟩ := x
   exact ⟨_, rfl, (TT.mk vk vn vnm vla vlc vls vaa vac vus), hx, rfl, zaa [] rfl rfl rfl rfl (Nat.zero_le _) ⟨⟨_, rfl, rfl⟩, trivial⟩ trivial ⟨⟨TTIn.upS _, fun w h => h.1⟩, trivial⟩⟩
def zhn (args : List Tm) (t : Tm) : Option Tm := zel (zd4 (putR args) t) (args.any fun u => !zaz u)
theorem zuv {w : World} {g1 g2 : Nat} {A : Option Addr} {c : Nat} {us : List TT} (h1 : SlAt w (some ⟨g1, 0, none⟩) [.slice A us.length c]) (h2 : SlAt w (some ⟨g2, 0, none⟩) [.func (.func 83) #[] #[.pointer (some ⟨g1, 0, none⟩)]]) (h3 : TsIn w A c us) : putP ⟨g1, 0, none⟩ ⟨g2, 0, none⟩ A c us w := by
 obtain ⟨a, ha, hc⟩ := h1 0 _ rfl
 obtain ⟨b, hb, hd⟩ := h2 0 _ rfl
 cases ha
 cases hb
 exact ⟨hc, hd, h3⟩
set_option maxHeartbeats 4000000 in
theorem zqh (t : TT) (A : Option Addr) (c : Nat) (gs : List TT) (hB : tmB t.tm) (hBs : ∀ u ∈ gs, tmB u.tm) : zaw Tryd.prog 40 [ttA t, .one (.v (.slice A gs.length c))] [] 0 (fun w => tsP A c gs w /\ TTIn w t) (ze2 (some (zhn (gs.map TT.tm) t.tm))) (zb5 (some (zhn (gs.map TT.tm) t.tm))) := by
 have hmade := fun a1 a2 => zkz 84 (.pointer (some a1)) (.pointer (some a2)) (putP a1 a2 A c gs) (putP.up _ _ _ _ _) (putR (gs.map TT.tm)) (fun t d _ => zvs a1 a2 A c gs hBs t d) t hB
 have hhas := zw7 A c gs
 have hspec := show zhn (gs.map TT.tm) t.tm = _ by rw [zhn]
 obtain ⟨R, hR⟩ : ∃ R, zhn (gs.map TT.tm) t.tm = R := ⟨_, rfl⟩
 rw [hR] at hspec ⊢
 obtain ⟨o, ho⟩ : ∃ o, zd4 (putR (gs.map TT.tm)) t.tm = o := ⟨_, rfl⟩
 rw [ho] at hspec hmade
 obtain ⟨b, hb⟩ : ∃ b, ((gs.map TT.tm).any fun u => !zaz u) = b := ⟨_, rfl⟩
 rw [hb] at hspec hhas
 clear hR ho hB hb
 obtain ⟨k, n, s, la, lc, ls, aa, ac, us⟩ := t
 refine zav zab 16 [.cell 4 41, .tmp 5] Tryd.func40 rfl rfl (by kernel_rfl) rfl _ (leB rfl) ((tsP.up _ _ _).and (TTIn.upS _)) ?_
 cases b with
 | true =>
  have e : R = none := hspec
  subst e
  refine zaf zab [] _ _ _ ?_
  refine zac [] hhas rfl trivial rfl rfl (fun w h => h.1.1) (fun _ _ => ⟨rfl, rfl⟩) (fun _ _ => ?_)
  exact ⟨_, rfl, zbc 0 0 ⟨#[]⟩, trivial, rfl, zaa [] rfl rfl rfl rfl (Nat.zero_le _) ⟨⟨_, rfl, rfl⟩, trivial⟩ trivial ⟨⟨Up.true, fun _ _ => trivial⟩, trivial⟩⟩
 | false =>
 have e : R = o := hspec
 subst e
 refine zaf zab [] _ _ _ ?_
 refine zac [] hhas rfl trivial rfl rfl (fun w h => h.1.1) (fun _ _ => ⟨rfl, rfl⟩) (fun _ _ => ?_)
 refine zat 1 (vs := [.slice A gs.length c]) rfl rfl (fun g1 => ?_)
 refine ziy 3 (vs := [.func (.func 83) #[] #[.pointer (some ⟨g1, 0, none⟩)]]) rfl (fun e => rfl) (fun g2 => ?_)
 have hm := hmade ⟨g1, 0, none⟩ ⟨g2, 0, none⟩
 cases R with
 | none =>
  refine zac [] hm rfl trivial rfl rfl (fun w h => ⟨⟨h.2.2.2.1.1.1, zuv h.2.1 h.1 h.2.2.2.1.1.2⟩, h.2.2.2.1.2⟩) (fun _ _ => ⟨rfl, rfl⟩) (fun x _ => ?_)
  exact ⟨_, rfl, x, trivial, rfl, zaa [] rfl rfl rfl rfl (Nat.zero_le _) ⟨⟨_, rfl, rfl⟩, trivial⟩ trivial ⟨⟨Up.true, fun _ _ => trivial⟩, trivial⟩⟩
 | some x0 =>
  refine zac [] hm rfl trivial rfl rfl (fun w h => ⟨⟨h.2.2.2.1.1.1, zuv h.2.1 h.1 h.2.2.2.1.1.2⟩, h.2.2.2.1.2⟩) (fun x _ => ?_) (fun x hx => ?_)
  ·obtain ⟨vk, vn, vnm, vla, vlc, vls, vaa, vac, vus⟩ := x
   exact ⟨rfl, rfl⟩
  obtain ⟨vk, vn, vnm, vla, vlc, vls, vaa, vac, vus⟩ := x
  exact ⟨_, rfl, (TT.mk vk vn vnm vla vlc vls vaa vac vus), hx, rfl, zaa [] rfl rfl rfl rfl (Nat.zero_le _) ⟨⟨_, rfl, rfl⟩, trivial⟩ trivial ⟨⟨TTIn.upS _, fun w h => h.1⟩, trivial⟩⟩
end Go.Proofs.YtmkpiekbpakigaaDoor
end
section
set_option linter.unusedVariables false
set_option linter.unusedSimpArgs false
namespace Go.Proofs.YtmkpiekbpakigaaDoor
open Go.RowKit Go.Proofs.Base Go.Proofs.Sym
structure SsIn (w : World) (A : Option Addr) (c : Nat) (ns : List ByteArray) : Prop where
 cells : SlAt w A (ns.map Value.string)
 nil : A = none -> ns.length = 0 /\ c = 0
 le : ns.length <= c
 max : c <= maxLen
theorem SsIn.up (A : Option Addr) (c : Nat) (ns : List ByteArray) : Up fun w => SsIn w A c ns := fun w w' h hb => ⟨SlAt.up _ _ _ _ h hb.cells, hb.nil, hb.le, hb.max⟩
theorem SsIn.get {w : World} {A : Option Addr} {c : Nat} {ns : List ByteArray} (h : SsIn w A c ns) {j : Nat} {x : ByteArray} (hj : ns[j]? = some x) : ∃ a, A = some a /\ w.cell? (a.add j) = some (.string x) :=
 h.cells j _ (by rw [List.getElem?_map, hj]; rfl)
def sIdx (s : ByteArray) : List ByteArray -> Int -> Int
 | [], _ => -1
 | x :: r, j => match decide (s = x) with
  | true => j
  | false => sIdx s r (j + 1)
theorem zi1 (A : Option Addr) (c : Nat) (ns : List ByteArray) (s : ByteArray) (hl : ns.length <= 9223372036854775807) : PCall Tryd.prog 115 [.slice A ns.length c, .string s] (fun w => SsIn w A c ns) (fun r => r = .int .i64 (sIdx s ns 0)) (fun _ _ => True) := by
 refine zaq zab 19 [.tmp 4] Tryd.func115 rfl rfl (by kernel_rfl) rfl _ (leB rfl) (SsIn.up _ _ _) (fun _ => Up.true) ?_
 refine zaf zab [] _ _ _ ?_
 refine ⟨⟨Nat, fun j => j <= ns.length /\ sIdx s (ns.drop j) j = sIdx s ns 0,
  fun j => { s := [(0, .one (.v (.slice A ns.length c))), (1, .one (.v (.string s))), (7, .one (.v (.int .i64 (ns.length : Int)))), (8, .one (.v (.int .i64 (j : Int))))], m := [], k := 0, f := [fun w => SsIn w A c ns] },
  fun j => ns.length - j, ⟨0, ⟨Nat.zero_le _, rfl⟩, ?_⟩, ?_⟩⟩
 ·exact zaa [] rfl rfl rfl rfl (Nat.le_refl _) ⟨⟨_, rfl, rfl⟩, ⟨_, rfl, rfl⟩, ⟨_, rfl, rfl⟩, ⟨_, rfl, rfl⟩, trivial⟩ trivial ⟨⟨SsIn.up _ _ _, fun w h => h.1⟩, trivial⟩
 rintro j ⟨hj, hA⟩
 refine zad (fun hlt => ?_) (fun hge => ?_)
 ·have hlt : j < ns.length := by
   have h : decide ((j : Int) < (ns.length : Int)) = true := hlt
   have := of_decide_eq_true h
   omega
  obtain ⟨x, hx⟩ : ∃ x, ns[j]? = some x := ⟨_, List.getElem?_eq_getElem hlt⟩
  have hstep : ∀ b, decide (s = x) = b -> sIdx s ns 0 = match b with | true => (j : Int) | false => sIdx s (ns.drop (j + 1)) (j + 1) := by
   intro b hb
   rw [<- hA, List.drop_eq_getElem_cons (by simpa using hlt), sIdx]
   simp [(List.getElem?_eq_some_iff.1 hx).2, hb]
  refine ⟨{ n := j }, ⟨rfl, hlt, fun w h => ?_⟩, ?_⟩
  ·obtain ⟨a, ha, _⟩ := h.1.get hx
   rw [ha]; rfl
  refine ⟨{ v := .string x }, fun w h => ?_, ?_⟩
  ·obtain ⟨a, ha, h3⟩ := h.1.get hx
   exact ⟨_, by rw [ha]; rfl, by simpa using h3⟩
  refine zad (fun h => ?_) (fun h => ?_)
  ·have h : decide (s = x) = true := h
   exact ⟨_, rfl, Told.val (by rw [hstep _ h])⟩
  ·have h : decide (s = x) = false := h
   refine ⟨j + 1, ⟨hlt, (hstep _ h).symm⟩, by simp only; omega, ?_⟩
   exact zaa [] rfl rfl rfl rfl (Nat.le_refl _) ⟨⟨_, rfl, rfl⟩, ⟨_, rfl, rfl⟩, ⟨_, rfl, rfl⟩, ⟨_, rfl, oneI (za6 (by omega) (by omega))⟩, trivial⟩ trivial ⟨⟨SsIn.up _ _ _, fun w h => h.1⟩, trivial⟩
 ·have hge : ns.length <= j := by
   have h : decide ((j : Int) < (ns.length : Int)) = false := hge
   have := of_decide_eq_false h
   omega
  have hend : sIdx s ns 0 = -1 := by
   rw [<- hA, List.drop_eq_nil_of_le (by simpa using hge)]
   rfl
  exact ⟨_, rfl, Told.val (by rw [hend])⟩
def zsc (m : Nat) (d q : Int) : Tm := .mk 1 (IntKind.i64.wrap (IntKind.i64.wrap (IntKind.i64.wrap (d + (m : Int)) - 1) - q)) ⟨#[]⟩ [] []
def zmh (ns : List ByteArray) : Tm -> Int -> Option (Option Tm)
 | .mk k n s ls us, d => znn (some (some (zsc ns.length d (sIdx s ns 0)))) (zcm (ns.length : Int) 0 (.mk k n s ls us) d) (decide (k = 4) && (decide ((ls.length : Int) = 0) && decide (0 <= sIdx s ns 0)))
structure zhd (a1 a2 b1 b2 : Addr) (A : Option Addr) (c : Nat) (ns : List ByteArray) (w : World) : Prop where
 h1 : w.cell? a1 = some (.slice A ns.length c)
 h2 : w.cell? a2 = some (.func (.func 126) #[] #[.pointer (some b1), .pointer (some b2)])
 h3 : SsIn w A c ns
 h4 : zfk b1 b2 (ns.length : Int) 0 w
theorem zhd.up (a1 a2 b1 b2 : Addr) (A : Option Addr) (c : Nat) (ns : List ByteArray) : Up (zhd a1 a2 b1 b2 A c ns) := fun w w' h hp => ⟨h.cell hp.h1, h.cell hp.h2, SsIn.up _ _ _ _ _ h hp.h3, zfk.up _ _ _ _ _ _ h hp.h4⟩
set_option maxHeartbeats 4000000 in
theorem zrv (a1 a2 b1 b2 : Addr) (A : Option Addr) (c : Nat) (ns : List ByteArray) (t : TT) (d : Int) : zaw Tryd.prog 114 [ttA t, .one (.v (.int .i64 d)), .one (.v (.pointer (some a1))), .one (.v (.pointer (some a2)))] [] 0 (fun w => zhd a1 a2 b1 b2 A c ns w /\ TTIn w t) (ze2 (zmh ns t.tm d)) (zb5 (zmh ns t.tm d)) := by
 have hmv := zjn b1 b2 (ns.length : Int) 0 t d
 by_cases hnl : ns.length <= 9223372036854775807
 rotate_left
 ·refine ⟨(zhd.up _ _ _ _ _ _ _).and (TTIn.upS _), fun cx e w hw hn0 he hm hlt => ?_⟩
  have h3 := hm.fact.1.1.h3
  exact absurd (Nat.le_trans h3.le (Nat.le_trans h3.max (by decide))) hnl
 obtain ⟨k, n, s, la, lc, ls, aa, ac, us⟩ := t
 have hix := zi1 A c ns s hnl
 obtain ⟨q, hq⟩ : ∃ q, sIdx s ns 0 = q := ⟨_, rfl⟩
 have hspec : ∀ x1 x2 x3, decide (k = 4) = x1 -> decide ((ls.length : Int) = 0) = x2 -> decide (0 <= q) = x3 -> zmh ns (TT.mk k n s la lc ls aa ac us).tm d = znn (some (some (zsc ns.length d q))) (zcm (ns.length : Int) 0 (TT.mk k n s la lc ls aa ac us).tm d) (x1 && (x2 && x3)) := by
  intro x1 x2 x3 e1 e2 e3
  rw [zbt, zmh, hq, e1, e2, e3]
 rw [hq] at hix
 obtain ⟨R, hR⟩ : ∃ R, zmh ns (TT.mk k n s la lc ls aa ac us).tm d = R := ⟨_, rfl⟩
 rw [hR] at hspec ⊢
 obtain ⟨D, hD⟩ : ∃ D, zcm (ns.length : Int) 0 (TT.mk k n s la lc ls aa ac us).tm d = D := ⟨_, rfl⟩
 rw [hD] at hspec hmv
 clear hR hD hq
 have hfalse : ∀ b, R = znn (some (some (zsc ns.length d q))) D b -> b = false -> R = D := fun b h e => by
  rw [h, e]
  rfl
 refine zav zab 40 [.cell 6 41, .tmp 7] Tryd.func114 rfl rfl (by kernel_rfl) rfl _ (leB rfl) ((zhd.up _ _ _ _ _ _ _).and (TTIn.upS _)) ?_
 refine zaf zab [1] _ _ _ ?_
 refine zai.cutX (X := Unit) (fun _ => R = D) (fun _ => { s := [(1, .one (.v (.int .i64 d))), (2, .one (.v (.pointer (some a1)))), (3, .one (.v (.pointer (some a2)))), (4, .one (.p 0 0)), (6, .one (.p 1 0)), (7, .one (.v (.bool false)))], m := [(0, .cells 41 ((TT.mk k n s la lc ls aa ac us).cells.map SA.v)), (1, .cells 41 zap)], k := 2, f := [fun w => zhd a1 a2 b1 b2 A c ns w /\ TTIn w (TT.mk k n s la lc ls aa ac us)] }) ?_ ?_
 ·refine zaf zab [2] _ _ _ ?_
  refine ⟨{ v := .slice A ns.length c }, fun w h => ⟨_, rfl, h.1.1.h1⟩, ?_⟩
  refine zae hix (fun _ => rfl) (fun w h => h.1.1.h3) ?_
  rintro r rfl
  refine zai.ent (st' := { s := [(1, .one (.v (.int .i64 d))), (2, .one (.v (.pointer (some a1)))), (3, .one (.v (.pointer (some a2)))), (4, .one (.p 0 0)), (6, .one (.p 1 0)), (7, .one (.v (.bool false))), (8, .one (.v (.int .i64 q)))], m := [(0, .cells 41 ((TT.mk k n s la lc ls aa ac us).cells.map SA.v)), (1, .cells 41 zap)], k := 2, f := [fun w => zhd a1 a2 b1 b2 A c ns w /\ TTIn w (TT.mk k n s la lc ls aa ac us)] }) (zaa [(0, .blk 0), (1, .blk 1)] rfl rfl rfl rfl (leB rfl) (rs rfl rfl) (rm rfl rfl) ⟨⟨(zhd.up _ _ _ _ _ _ _).and (TTIn.upS _), fun w h => h.2.1⟩, trivial⟩) ?_
  refine zaf zab [3] _ _ _ ?_
  refine zad (fun h1 => ?_) (fun h1 => ?_)
  rotate_left
  ·have h1 : decide (k = 4) = false := h1
   exact ⟨(), hfalse _ (hspec _ _ _ h1 rfl rfl) rfl, zaa [(0, .blk 0), (1, .blk 1)] rfl rfl rfl rfl (leB rfl) (rs rfl rfl) (rm rfl rfl) ⟨⟨(zhd.up _ _ _ _ _ _ _).and (TTIn.upS _), fun w h => h.1⟩, trivial⟩⟩
  have h1 : decide (k = 4) = true := h1
  refine zad (fun h2 => ?_) (fun h2 => ?_)
  rotate_left
  ·have h2 : decide ((ls.length : Int) = 0) = false := h2
   exact ⟨(), hfalse _ (hspec _ _ _ h1 h2 rfl) rfl, zaa [(0, .blk 0), (1, .blk 1)] rfl rfl rfl rfl (leB rfl) (rs rfl rfl) (rm rfl rfl) ⟨⟨(zhd.up _ _ _ _ _ _ _).and (TTIn.upS _), fun w h => h.1⟩, trivial⟩⟩
  have h2 : decide ((ls.length : Int) = 0) = true := h2
  refine zad (fun h3 => ?_) (fun h3 => ?_)
  rotate_left
  ·have h3 : decide (0 <= q) = false := h3
   exact ⟨(), hfalse _ (hspec _ _ _ h1 h2 h3) rfl, zaa [(0, .blk 0), (1, .blk 1)] rfl rfl rfl rfl (leB rfl) (rs rfl rfl) (rm rfl rfl) ⟨⟨(zhd.up _ _ _ _ _ _ _).and (TTIn.upS _), fun w h => h.1⟩, trivial⟩⟩
  have h3 : decide (0 <= q) = true := h3
  have e := hspec _ _ _ h1 h2 h3
  subst e
  refine ⟨{ v := .slice A ns.length c }, fun w h => ⟨_, rfl, h.1.1.h1⟩, ?_⟩
  refine ⟨_, rfl, zbc 1 (IntKind.i64.wrap (IntKind.i64.wrap (IntKind.i64.wrap (d + (ns.length : Int)) - 1) - q)) ⟨#[]⟩, ?_, rfl, ?_⟩
  ·show (zbc 1 (IntKind.i64.wrap (IntKind.i64.wrap (IntKind.i64.wrap (d + (ns.length : Int)) - 1) - q)) ⟨#[]⟩).tm = zsc ns.length d q
   unfold zbc zsc
   rw [zbt]
   rfl
  exact zaa [] rfl rfl rfl rfl (Nat.zero_le _) ⟨⟨_, rfl, rfl⟩, trivial⟩ trivial ⟨⟨TTIn.upS _, fun w h => zei w (by unfold I64; omega) (zh7 _) (by decide)⟩, trivial⟩
 ·intro _ e
  subst e
  cases R with
  | none =>
   refine zaf zab [] _ _ _ ?_
   refine ⟨{ v := .func (.func 126) #[] #[.pointer (some b1), .pointer (some b2)] }, fun w h => ⟨_, rfl, h.1.1.h2⟩, ?_⟩
   refine zac [] hmv rfl trivial rfl rfl (fun w h => ⟨h.1.1.h4, h.1.2⟩) (fun _ _ => ⟨rfl, rfl⟩) (fun _ _ => ?_)
   exact ⟨zbc 0 0 ⟨#[]⟩, trivial, rfl, zaa [] rfl rfl rfl rfl (Nat.zero_le _) ⟨⟨_, rfl, rfl⟩, trivial⟩ trivial ⟨⟨Up.true, fun _ _ => trivial⟩, trivial⟩⟩
  | some o =>
  cases o with
  | none =>
   refine zaf zab [] _ _ _ ?_
   refine ⟨{ v := .func (.func 126) #[] #[.pointer (some b1), .pointer (some b2)] }, fun w h => ⟨_, rfl, h.1.1.h2⟩, ?_⟩
   refine zac [] hmv rfl trivial rfl rfl (fun w h => ⟨h.1.1.h4, h.1.2⟩) (fun _ _ => ⟨rfl, rfl⟩) (fun _ _ => ?_)
   exact ⟨_, rfl, zbc 0 0 ⟨#[]⟩, trivial, rfl, zaa [] rfl rfl rfl rfl (Nat.zero_le _) ⟨⟨_, rfl, rfl⟩, trivial⟩ trivial ⟨⟨Up.true, fun _ _ => trivial⟩, trivial⟩⟩
  | some y =>
   refine zaf zab [] _ _ _ ?_
   refine ⟨{ v := .func (.func 126) #[] #[.pointer (some b1), .pointer (some b2)] }, fun w h => ⟨_, rfl, h.1.1.h2⟩, ?_⟩
   refine zac [] hmv rfl trivial rfl rfl (fun w h => ⟨h.1.1.h4, h.1.2⟩) (fun x _ => ?_) (fun x hx => ?_)
   ·obtain ⟨vk, vn, vnm, vla, vlc, vls, vaa, vac, vus⟩ := x
    exact ⟨rfl, rfl⟩
   obtain ⟨vk, vn, vnm, vla, vlc, vls, vaa, vac, vus⟩ := x
   exact ⟨_, rfl, (TT.mk vk vn vnm vla vlc vls vaa vac vus), hx, rfl, zaa [] rfl rfl rfl rfl (Nat.zero_le _) ⟨⟨_, rfl, rfl⟩, trivial⟩ trivial ⟨⟨TTIn.upS _, fun w h => h.1⟩, trivial⟩⟩
def zki (ns : List ByteArray) (t : Tm) : Option Tm := zd4 (zmh ns) t
theorem zqe {w : World} {g1 g2 g3 g4 : Nat} {A : Option Addr} {c : Nat} {ns : List ByteArray} (h1 : SlAt w (some ⟨g1, 0, none⟩) [.slice A ns.length c]) (h2 : SlAt w (some ⟨g2, 0, none⟩) [.func (.func 126) #[] #[.pointer (some ⟨g4, 0, none⟩), .pointer (some ⟨g3, 0, none⟩)]]) (h3 : SsIn w A c ns) (h4 : SlAt w (some ⟨g4, 0, none⟩) [.int .i64 0]) (h5 : SlAt w (some ⟨g3, 0, none⟩) [.int .i64 (ns.length : Int)]) : zhd ⟨g1, 0, none⟩ ⟨g2, 0, none⟩ ⟨g4, 0, none⟩ ⟨g3, 0, none⟩ A c ns w := by
 obtain ⟨a, ha, hc⟩ := h1 0 _ rfl
 obtain ⟨b, hb, hd⟩ := h2 0 _ rfl
 cases ha
 cases hb
 exact ⟨hc, hd, h3, zfn h4 h5⟩
set_option maxHeartbeats 4000000 in
theorem zr3 (t : TT) (A : Option Addr) (c : Nat) (ns : List ByteArray) (hB : tmB t.tm) : zaw Tryd.prog 74 [ttA t, .one (.v (.slice A ns.length c))] [] 0 (fun w => (ML w /\ SsIn w A c ns) /\ TTIn w t) (ze2 (some (zki ns t.tm))) (zb5 (some (zki ns t.tm))) := by
 have hmade := fun a1 a2 b1 b2 => zkz 114 (.pointer (some a1)) (.pointer (some a2)) (zhd a1 a2 b1 b2 A c ns) (zhd.up _ _ _ _ _ _ _) (zmh ns) (fun t d _ => zrv a1 a2 b1 b2 A c ns t d) t hB
 unfold zki
 obtain ⟨R, hR⟩ : ∃ R, zd4 (zmh ns) t.tm = R := ⟨_, rfl⟩
 rw [hR] at hmade ⊢
 clear hR hB
 obtain ⟨k, n, s, la, lc, ls, aa, ac, us⟩ := t
 refine zav zab 15 [.cell 4 41, .tmp 5] Tryd.func74 rfl rfl (by kernel_rfl) rfl _ (leB rfl) ((ML.up.and (SsIn.up _ _ _)).and (TTIn.upS _)) ?_
 refine zaf zab [] _ _ _ ?_
 refine zac [] (zd9 (ns.length : Int) 0) rfl trivial rfl rfl (fun _ _ => trivial) (fun _ _ => ⟨rfl, rfl⟩) (fun _ _ => ?_)
 refine zat 1 (vs := [.slice A ns.length c]) rfl rfl (fun g1 => ?_)
 refine zat 3 (vs := [.int .i64 (ns.length : Int)]) rfl rfl (fun g3 => ?_)
 refine zat 4 (vs := [.int .i64 0]) rfl rfl (fun g4 => ?_)
 refine ziy 5 (vs := [.func (.func 126) #[] #[.pointer (some ⟨g4, 0, none⟩), .pointer (some ⟨g3, 0, none⟩)]]) rfl (fun e => rfl) (fun g2 => ?_)
 have hm := hmade ⟨g1, 0, none⟩ ⟨g2, 0, none⟩ ⟨g4, 0, none⟩ ⟨g3, 0, none⟩
 cases R with
 | none =>
  refine zac [] hm rfl trivial rfl rfl (fun w h => ⟨⟨h.2.2.2.2.2.1.1.1, zqe h.2.2.2.1 h.1 h.2.2.2.2.2.1.1.2 h.2.1 h.2.2.1⟩, h.2.2.2.2.2.1.2⟩) (fun _ _ => ⟨rfl, rfl⟩) (fun x _ => ?_)
  exact ⟨_, rfl, x, trivial, rfl, zaa [] rfl rfl rfl rfl (Nat.zero_le _) ⟨⟨_, rfl, rfl⟩, trivial⟩ trivial ⟨⟨Up.true, fun _ _ => trivial⟩, trivial⟩⟩
 | some x0 =>
  refine zac [] hm rfl trivial rfl rfl (fun w h => ⟨⟨h.2.2.2.2.2.1.1.1, zqe h.2.2.2.1 h.1 h.2.2.2.2.2.1.1.2 h.2.1 h.2.2.1⟩, h.2.2.2.2.2.1.2⟩) (fun x _ => ?_) (fun x hx => ?_)
  ·obtain ⟨vk, vn, vnm, vla, vlc, vls, vaa, vac, vus⟩ := x
   exact ⟨rfl, rfl⟩
  obtain ⟨vk, vn, vnm, vla, vlc, vls, vaa, vac, vus⟩ := x
  exact ⟨_, rfl, (TT.mk vk vn vnm vla vlc vls vaa vac vus), hx, rfl, zaa [] rfl rfl rfl rfl (Nat.zero_le _) ⟨⟨_, rfl, rfl⟩, trivial⟩ trivial ⟨⟨TTIn.upS _, fun w h => h.1⟩, trivial⟩⟩
end Go.Proofs.YtmkpiekbpakigaaDoor
end
section
set_option linter.unusedVariables false
set_option linter.unusedSimpArgs false
namespace Go.Proofs.YtmkpiekbpakigaaDoor
open Go.RowKit Go.Proofs.Base Go.Proofs.Sym
theorem zfy (k j : Int) : za9 k j = 0 \/ za9 k j = 1 := by
 unfold za9
 split
 ·exact .inr rfl
 ·exact .inl rfl
mutual
def boT : Tm -> Int -> Prop
 | .mk k n s ls us, e => (0 <= e /\ e <= 200 /\ (k = 1 -> 0 <= n /\ n <= 2199023255552)) /\ boTs k 0 us e
def boTs (k : Int) : Int -> List Tm -> Int -> Prop
 | _, [], _ => True
 | j, u :: r, e => boT u (e + za9 k j) /\ boTs k (j + 1) r e
end
mutual
def goP (ψ : Tm -> Int -> Option Tm) : Tm -> Int -> Tm
 | .mk k n s ls us, d => match ψ (.mk k n s ls us) d with
  | some x => x
  | none => .mk k n s ls (goPs ψ k 0 us d)
def goPs (ψ : Tm -> Int -> Option Tm) (k : Int) : Int -> List Tm -> Int -> List Tm
 | _, [], _ => []
 | j, u :: r, d => goP ψ u (d + za9 k j) :: goPs ψ k (j + 1) r d
end
structure Fuse (ψ1 ψ2 ψ3 : Tm -> Int -> Option Tm) (δ : Int) : Prop where
 put : ∀ t d x, 0 <= d -> ψ1 t d = some x -> goP ψ2 x (d + δ) = goP ψ3 t d
 keep : ∀ k n s ls us us' d, 0 <= d -> ψ1 (.mk k n s ls us) d = none -> (∀ y, ψ3 (.mk k n s ls us) d = some y -> ψ2 (.mk k n s ls us') (d + δ) = some y) /\ (ψ3 (.mk k n s ls us) d = none -> ψ2 (.mk k n s ls us') (d + δ) = none)
mutual
theorem fuse {ψ1 ψ2 ψ3 : Tm -> Int -> Option Tm} {δ : Int} (h : Fuse ψ1 ψ2 ψ3 δ) : ∀ (t : Tm) (d : Int), 0 <= d -> goP ψ2 (goP ψ1 t d) (d + δ) = goP ψ3 t d
 | .mk k n s ls us, d, hd => by
  cases h1 : ψ1 (.mk k n s ls us) d with
  | some x =>
   have e1 : goP ψ1 (.mk k n s ls us) d = x := by
    unfold goP
    rw [h1]
   rw [e1]
   exact h.put _ _ _ hd h1
  | none =>
   have e1 : goP ψ1 (.mk k n s ls us) d = .mk k n s ls (goPs ψ1 k 0 us d) := by
    rw [goP, h1]
   rw [e1]
   obtain ⟨h2, h3⟩ := h.keep k n s ls us (goPs ψ1 k 0 us d) d hd h1
   cases h4 : ψ3 (.mk k n s ls us) d with
   | some y => rw [goP, goP, h4, h2 _ h4]
   | none =>
    rw [goP, goP, h4, h3 h4]
    show Tm.mk k n s ls (goPs ψ2 k 0 (goPs ψ1 k 0 us d) (d + δ)) = .mk k n s ls (goPs ψ3 k 0 us d)
    rw [zaax h k us 0 d hd]
theorem zaax {ψ1 ψ2 ψ3 : Tm -> Int -> Option Tm} {δ : Int} (h : Fuse ψ1 ψ2 ψ3 δ) (k : Int) : ∀ (us : List Tm) (j d : Int), 0 <= d -> goPs ψ2 k j (goPs ψ1 k j us d) (d + δ) = goPs ψ3 k j us d
 | [], j, d, hd => by
  rw [goPs, goPs, goPs]
 | u :: r, j, d, hd => by
  have h01 := zfy k j
  rw [goPs, goPs, goPs, zaax h k r (j + 1) d hd, show d + δ + za9 k j = d + za9 k j + δ by omega, fuse h u _ (by omega)]
end
def vM (n : Int) : Tm := .mk 1 n ⟨#[]⟩ [] []
def shS (by' : Int) : Tm -> Int -> Option Tm
 | .mk k n _ _ _, d => if k = 1 /\ d <= n then some (vM (n + by')) else none
def puS (gs : List Tm) : Tm -> Int -> Option Tm
 | .mk k n _ _ _, d => if k = 1 /\ d <= n then (if n - d < (gs.length : Int) then (match gs[gs.length - 1 - (n - d).toNat]? with
   | some a => some (goP (shS d) a 0)
   | none => none) else some (vM (n - (gs.length : Int)))) else none
theorem zdr (b k n : Int) (s : ByteArray) (ls : List Lv) (us : List Tm) (d : Int) : shS b (.mk k n s ls us) d = if k = 1 /\ d <= n then some (vM (n + b)) else none := rfl
theorem zp7 (gs : List Tm) (k n : Int) (s : ByteArray) (ls : List Lv) (us : List Tm) (d : Int) : puS gs (.mk k n s ls us) d = if k = 1 /\ d <= n then (if n - d < (gs.length : Int) then (match gs[gs.length - 1 - (n - d).toNat]? with
   | some a => some (goP (shS d) a 0)
   | none => none) else some (vM (n - (gs.length : Int)))) else none := rfl
theorem zt0 (b f k n : Int) (s : ByteArray) (ls : List Lv) (us : List Tm) (d : Int) : zcm b f (.mk k n s ls us) d = zkq (zom (.mk 1 (IntKind.i64.wrap (n + b)) ⟨#[]⟩ [] []) (decide (f <= IntKind.i64.wrap (IntKind.i64.wrap (n - d) + b)))) (decide (k = 1) && !decide (IntKind.i64.wrap (n - d) < f)) := rfl
theorem zwc (m : Nat) (k n : Int) (s : ByteArray) (ls : List Lv) (us : List Tm) (d : Int) : zjv m (.mk k n s ls us) d = zkq (some (some (.mk 1 (IntKind.i64.wrap (n - (m : Int))) ⟨#[]⟩ [] []))) (decide (k = 1) && !decide (IntKind.i64.wrap (n - d) < (m : Int))) := rfl
theorem zy2 (gs : List Tm) (k n : Int) (s : ByteArray) (ls : List Lv) (us : List Tm) (d : Int) : putR gs (.mk k n s ls us) d = znn (zrj gs (gs.length - 1 - (IntKind.i64.wrap (n - d)).toNat) d) (zjv gs.length (.mk k n s ls us) d) (decide (k = 1) && (decide (0 <= IntKind.i64.wrap (n - d)) && decide (IntKind.i64.wrap (n - d) < (gs.length : Int)))) := rfl
theorem zz5 (ψ : Tm -> Int -> Option Tm) (n d : Int) (x : Tm) (h : ψ (vM n) d = some x) : goP ψ (vM n) d = x := by
 unfold vM at h ⊢
 rw [goP, h]
theorem zabq (b n d : Int) (h : d <= n) : shS b (vM n) d = some (vM (n + b)) := by
 unfold vM
 rw [zdr, if_pos ⟨rfl, h⟩]
 rfl
theorem zz8 (gs : List Tm) (n d : Int) (h : d + (gs.length : Int) <= n) : puS gs (vM n) d = some (vM (n - (gs.length : Int))) := by
 unfold vM
 rw [zp7, if_pos ⟨rfl, by omega⟩, if_neg (by omega)]
 rfl
theorem zo1 (a b : Int) (ha : 0 <= a) (t : Tm) (d : Int) (hd : 0 <= d) : goP (shS b) (goP (shS a) t d) d = goP (shS (a + b)) t d := by
 have h : Fuse (shS a) (shS b) (shS (a + b)) 0 := by
  refine ⟨?_, ?_⟩
  ·rintro ⟨k, n, s, ls, us⟩ d x hd h
   rw [Int.add_zero]
   rw [zdr] at h
   split at h
   ·rename_i hc
    cases h
    rw [zz5 _ _ _ _ (zabq b (n + a) d (by omega)), goP]
    rw [zdr, if_pos hc, show n + a + b = n + (a + b) by omega]
   ·cases h
  ·intro k n s ls us us' d hd h
   rw [Int.add_zero]
   rw [zdr] at h
   rw [zdr, zdr]
   split at h
   ·cases h
   ·rename_i hc
    rw [if_neg hc, if_neg hc]
    exact ⟨fun y h => h, fun _ => rfl⟩
 have := fuse h t d hd
 rwa [Int.add_zero] at this
theorem ztm (gs : List Tm) (c : Int) (hc : 0 <= c) (t : Tm) (d : Int) (hd : 0 <= d) : goP (puS gs) (goP (shS (c + (gs.length : Int))) t d) (d + c) = goP (shS c) t d := by
 have h : Fuse (shS (c + (gs.length : Int))) (puS gs) (shS c) c := by
  refine ⟨?_, ?_⟩
  ·rintro ⟨k, n, s, ls, us⟩ d x hd h
   rw [zdr] at h
   split at h
   ·rename_i hc2
    cases h
    rw [zz5 _ _ _ _ (zz8 gs (n + (c + (gs.length : Int))) (d + c) (by omega)), goP]
    rw [zdr, if_pos hc2, show n + (c + (gs.length : Int)) - (gs.length : Int) = n + c by omega]
   ·cases h
  ·intro k n s ls us us' d hd h
   rw [zdr] at h
   split at h
   ·cases h
   ·rename_i hc2
    rw [zp7, zdr, if_neg hc2, if_neg (by omega)]
    exact ⟨fun y h => h, fun _ => rfl⟩
 exact fuse h t d hd
end Go.Proofs.YtmkpiekbpakigaaDoor
end
section
set_option linter.unusedVariables false
set_option linter.unusedSimpArgs false
namespace Go.Proofs.YtmkpiekbpakigaaDoor
open Go.RowKit Go.Proofs.Base Go.Proofs.Sym
def gtP (t : TT) (A : Option Addr) (c : Nat) (gs : List TT) (w : World) : Prop := TTIn w t /\ TsIn w A c gs
theorem gtP.up (t : TT) (A : Option Addr) (c : Nat) (gs : List TT) : Up (gtP t A c gs) := (TTIn.upS _).and (TsIn.up _ _ _)
def gtR (n : Nat) (r : Value) : Prop := ∃ b, r = .bool b /\ (b = false -> n <= 12)
set_option maxHeartbeats 4000000 in
theorem zsy (t : TT) (A : Option Addr) (c : Nat) (gs : List TT) : PCall Tryd.prog 36 [t.val, .slice A gs.length c] (gtP t A c gs) (gtR gs.length) (fun _ _ => True) := by
 have hg8 := ztd t
 obtain ⟨B, hB⟩ : ∃ B, decide (3600 < zdh 3600 t) = B := ⟨_, rfl⟩
 rw [hB] at hg8
 clear hB
 obtain ⟨k, n, s, la, lc, ls, aa, ac, us⟩ := t
 refine zaq zab 29 [.tmp 4] Tryd.func36 rfl rfl (by kernel_rfl) rfl _ (leB rfl) (gtP.up _ _ _ _) (fun _ => Up.true) ?_
 refine zai.told (p := gs.length <= 9223372036854775807) (fun w h => Nat.le_trans h.1.2.le (Nat.le_trans h.1.2.max (by decide))) (fun hgl => ?_)
 refine zaf zab [3] _ _ _ ?_
 have fin : gtR gs.length (.bool true) := ⟨true, rfl, fun h => by cases h⟩
 refine zad (fun h => ?_) (fun h12 => ?_)
 ·exact ⟨_, rfl, Told.val fin⟩
 have h12 : gs.length <= 12 := by
  have h : decide (12 < (gs.length : Int)) = false := h12
  have := of_decide_eq_false h
  omega
 have fin2 : gtR gs.length (.bool false) := ⟨false, rfl, fun _ => h12⟩
 refine zae hg8 (fun _ => rfl) (fun w h => h.1.1) ?_
 rintro r rfl
 cases B with
 | true => exact ⟨_, rfl, Told.val fin⟩
 | false =>
 refine zai.ent (st' := { s := [(1, .one (.v (.slice A gs.length c))), (4, .one (.v (.bool false)))], m := [], k := 0, f := [gtP (TT.mk k n s la lc ls aa ac us) A c gs] }) (zaa [] rfl rfl rfl rfl (leB rfl) (rs rfl rfl) trivial ⟨⟨gtP.up _ _ _ _, fun w h => h.2.1⟩, trivial⟩) ?_
 refine zaf zab [7] _ _ _ ?_
 refine ⟨⟨Nat × Int, fun q => q.1 <= gs.length, fun q => { s := [(1, .one (.v (.slice A gs.length c))), (4, .one (.v (.bool false))), (5, .one (.v (.int .i64 q.2))), (6, .one (.v (.int .i64 (q.1 : Int))))], m := [], k := 0, f := [gtP (TT.mk k n s la lc ls aa ac us) A c gs] }, fun q => gs.length - q.1, ⟨(0, 0), Nat.zero_le _, zaa [] rfl rfl rfl rfl (leB rfl) (rs rfl rfl) trivial ⟨⟨gtP.up _ _ _ _, fun w h => h.1⟩, trivial⟩⟩, ?_⟩⟩
 rintro ⟨i, v⟩ hi
 have hi : i <= gs.length := hi
 refine zad (fun hlt0 => ?_) (fun hge0 => ?_)
 rotate_left
 ·exact ⟨_, rfl, Told.val fin2⟩
 have hlt : i < gs.length := by
  have h : decide ((i : Int) < (gs.length : Int)) = true := hlt0
  have := of_decide_eq_true h
  omega
 clear hlt0
 obtain ⟨u, hu⟩ : ∃ u, gs[i]? = some u := ⟨_, List.getElem?_eq_getElem hlt⟩
 have hno := zlf 3600 (by decide) (by decide) u
 obtain ⟨q, hq⟩ : ∃ q, zdh 3600 u = q := ⟨_, rfl⟩
 rw [hq] at hno
 clear hq
 refine zai.told (p := ∃ a, A = some a) (fun w h => ?_) ?_
 ·obtain ⟨⟨a, ha, _⟩, _⟩ := h.1.2.arg hu
  exact ⟨a, ha⟩
 rintro ⟨b0, rfl⟩
 obtain ⟨uk, un, unm, ula, ulc, uls, uaa, uac, uus⟩ := u
 refine zaf zab [] _ _ _ ?_
 refine ⟨{ n := i }, ⟨rfl, hlt, fun w h => rfl⟩, ?_⟩
 refine ⟨{ cs := (TT.mk uk un unm ula ulc uls uaa uac uus).cells }, ⟨TT.cells_one (TT.mk uk un unm ula ulc uls uaa uac uus), rfl, fun w h => ?_⟩, ?_⟩
 ·obtain ⟨⟨a, ha, hc⟩, _⟩ := h.1.2.arg hu
  cases ha
  exact ⟨_, rfl, hc⟩
 refine zae hno (fun _ => rfl) (fun w h => (h.1.2.arg hu).2) ?_
 rintro r rfl
 refine zad (fun h => ?_) (fun h => ?_)
 ·exact ⟨_, rfl, Told.val fin⟩
 refine ⟨(i + 1, IntKind.i64.wrap (v + q)), hlt, by show gs.length - (i + 1) < gs.length - i; omega, ?_⟩
 exact zaa [] rfl rfl rfl rfl (leB rfl) ⟨⟨_, rfl, rfl⟩, ⟨_, rfl, rfl⟩, ⟨_, rfl, rfl⟩, ⟨_, rfl, oneI (za6 (by omega) (by omega))⟩, trivial⟩ trivial ⟨⟨gtP.up _ _ _ _, fun w h => h.2.1⟩, trivial⟩
end Go.Proofs.YtmkpiekbpakigaaDoor
end
