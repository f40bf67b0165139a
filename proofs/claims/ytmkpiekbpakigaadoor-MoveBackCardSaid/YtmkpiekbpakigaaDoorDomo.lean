/- What the claim needs of Mb2, Mb3, Own8, in one text. -/
import Derived.Test.YtmkpiekbpakigaaDoorDomn
section
set_option linter.unusedVariables false
set_option linter.unusedSimpArgs false
namespace Go.Proofs.YtmkpiekbpakigaaDoor
open Go.RowKit Go.Proofs.Base Go.Proofs.Sym
mutual
def wfT : Tm -> Int -> Prop
 | .mk k n s ls us, d => (zcu k n s ls us.length 4 (1099511627776 + d) d = true /\ 0 <= d /\ d <= 200) /\ wfTs k 0 us d
def wfTs (k : Int) : Int -> List Tm -> Int -> Prop
 | _, [], _ => True
 | j, u :: r, d => wfT u (d + za9 k j) /\ wfTs k (j + 1) r d
end
theorem zw8 {k n : Int} {s : ByteArray} {ls : List Lv} {len p v d : Int} (h : zcu k n s ls len p v d = true) : d <= 200 := by
 unfold zcu at h
 simp only [Bool.and_eq_true, Bool.not_eq_true', decide_eq_false_iff_not] at h
 omega
mutual
theorem zaak : ∀ (t : Tm) (d : Int), 0 <= d -> allT 4 (1099511627776 + d) d t = true -> wfT t d
 | .mk k n s ls us, d, hd, h => by
  unfold allT at h
  rw [Bool.and_eq_true] at h
  have h2 := zw8 h.1
  unfold wfT
  exact ⟨⟨h.1, hd, h2⟩, zxn k us 0 d hd h2 h.2⟩
theorem zxn (k : Int) : ∀ (us : List Tm) (i : Nat) (d : Int), 0 <= d -> d <= 200 -> zci k 4 (1099511627776 + d) d i us = true -> wfTs k i us d
 | [], i, d, hd, h2, h => by
  unfold wfTs
  trivial
 | u :: r, i, d, hd, h2, h => by
  have h01 := zfy k i
  unfold zci at h
  rw [Bool.and_eq_true, za6 (n := d + za9 k i) (by omega) (by omega), za6 (n := 1099511627776 + d + za9 k i) (by omega) (by omega), Int.add_assoc] at h
  unfold wfTs
  exact ⟨zaak u _ (by omega) h.1, zxn k r (i + 1) d hd h2 h.2⟩
end
mutual
theorem zaat : ∀ (t : Tm) (d : Int), wfT t d -> allT 4 (1099511627776 + d) d t = true
 | .mk k n s ls us, d, h => by
  unfold wfT at h
  unfold allT
  rw [Bool.and_eq_true]
  exact ⟨h.1.1, zxo k us 0 d h.1.2.1 h.1.2.2 h.2⟩
theorem zxo (k : Int) : ∀ (us : List Tm) (i : Nat) (d : Int), 0 <= d -> d <= 200 -> wfTs k i us d -> zci k 4 (1099511627776 + d) d i us = true
 | [], i, d, hd, h2, h => by unfold zci; rfl
 | u :: r, i, d, hd, h2, h => by
  have h01 := zfy k i
  unfold wfTs at h
  unfold zci
  rw [Bool.and_eq_true, za6 (n := d + za9 k i) (by omega) (by omega), za6 (n := 1099511627776 + d + za9 k i) (by omega) (by omega), Int.add_assoc]
  exact ⟨zaat u _ h.1, zxo k r (i + 1) d hd h2 h.2⟩
end
theorem zdi {t : Tm} (h : zaz t = true) : wfT t 0 := by
 unfold zaz zbf at h
 simp only [Bool.and_eq_true] at h
 exact zaak t 0 (Int.le_refl _) h.2.2.2.2.2
theorem zvx {t : Tm} (h : wfT t 0) (hs : za4 t <= 3000) : zaz t = true := by
 unfold zaz zbf
 rw [zgb (zch t hs), if_pos hs]
 simp only [Bool.and_eq_true, decide_eq_true_eq]
 exact ⟨by decide, by decide, by decide, by decide, by omega, zaat t 0 h⟩
theorem zjl {n : Int} {s : ByteArray} {ls : List Lv} {us : List Tm} {d : Int} (h : zcu 1 n s ls us.length 4 (1099511627776 + d) d = true) : Tm.mk 1 n s ls us = vM n /\ 0 <= n /\ n < 1099511627776 + d := by
 obtain ⟨h1, h2⟩ := zrt h
 have h3 := (zn3 h2).1
 unfold zcu at h
 simp only [Bool.and_eq_true] at h
 obtain ⟨h4, h5, h6⟩ := (zjx h.2.2.2.2.1).1 rfl
 have e1 : us = [] := List.eq_nil_of_length_eq_zero (by
  have : zf3 1 = 0 := rfl
  omega)
 have e2 : ls = [] := List.eq_nil_of_length_eq_zero (by
  have : zgo 1 = 0 := rfl
  omega)
 rw [e1, e2, h6]
 exact ⟨rfl, h4, h5⟩
theorem zaao {n d : Int} (h0 : 0 <= n) (h1 : n < 1099511627776 + d) (hd : 0 <= d) (h2 : d <= 200) : wfT (vM n) d := by
 unfold vM wfT
 refine ⟨⟨?_, hd, h2⟩, by unfold wfTs; trivial⟩
 unfold zcu zbl zbq
 rw [if_pos rfl]
 simp only [Bool.and_eq_true, Bool.not_eq_true', decide_eq_false_iff_not, decide_eq_true_eq]
 refine ⟨by decide, by decide, by omega, rfl, ⟨h0, h1, rfl⟩, rfl, rfl⟩
mutual
def frT (P : Int -> Prop) : Tm -> Int -> Prop
 | .mk k n _ _ us, d => (k = 1 -> d <= n -> P (n - d)) /\ frTs P k 0 us d
def frTs (P : Int -> Prop) (k : Int) : Int -> List Tm -> Int -> Prop
 | _, [], _ => True
 | j, u :: r, d => frT P u (d + za9 k j) /\ frTs P k (j + 1) r d
end
mutual
theorem zhb {P Q : Int -> Prop} (h : ∀ m, P m -> Q m) : ∀ (t : Tm) (d : Int), frT P t d -> frT Q t d
 | .mk k n s ls us, d, hp => by
  unfold frT at *
  exact ⟨fun hk hd => h _ (hp.1 hk hd), zme h k us 0 d hp.2⟩
theorem zme {P Q : Int -> Prop} (h : ∀ m, P m -> Q m) (k : Int) : ∀ (us : List Tm) (j d : Int), frTs P k j us d -> frTs Q k j us d
 | [], j, d, _ => by unfold frTs; trivial
 | u :: r, j, d, hp => by
  unfold frTs at *
  exact ⟨zhb h u _ hp.1, zme h k r _ d hp.2⟩
end
mutual
theorem zyq : ∀ (t : Tm) (d : Int), wfT t d -> frT (fun m => 0 <= m /\ m < 1099511627776) t d
 | .mk k n s ls us, d, h => by
  unfold wfT at h
  unfold frT
  refine ⟨fun hk hd => ?_, zxw k us 0 d h.2⟩
  subst hk
  have := zjl h.1.1
  omega
theorem zxw (k : Int) : ∀ (us : List Tm) (j d : Int), wfTs k j us d -> frTs (fun m => 0 <= m /\ m < 1099511627776) k j us d
 | [], j, d, _ => by unfold frTs; trivial
 | u :: r, j, d, h => by
  unfold wfTs at h
  unfold frTs
  exact ⟨zyq u _ h.1, zxw k r _ d h.2⟩
end
theorem zxp {a b c : Int} (h : mxI a b <= c) : a <= c /\ b <= c := by
 unfold mxI at h
 split at h <;> omega
mutual
theorem zaa7 (c : Int) : ∀ (t : Tm) (d : Int), wfT t d -> loW t d <= c -> frT (fun m => 0 <= m /\ m < c) t d
 | .mk k n s ls us, d, h, hc => by
  unfold wfT at h
  obtain ⟨⟨h1, h2, h3⟩, h4⟩ := h
  unfold loW at hc
  unfold frT
  by_cases hk : k = 1
  ·subst hk
   obtain ⟨e1, e2, e3⟩ := zjl h1
   rw [if_pos rfl, za6 (n := n - d) (by omega) (by omega), za6 (n := n - d + 1) (by omega) (by omega)] at hc
   have := zxp hc
   refine ⟨fun _ hd => by omega, ?_⟩
   injection e1 with _ _ _ _ e5
   subst e5
   unfold frTs
   trivial
  ·rw [if_neg hk] at hc
   exact ⟨fun h => absurd h hk, (zxi c k us 0 d 0 h2 h3 h4 hc).2⟩
theorem zxi (c k : Int) : ∀ (us : List Tm) (j : Nat) (d acc : Int), 0 <= d -> d <= 200 -> wfTs k j us d -> loWs k j us d acc <= c -> acc <= c /\ frTs (fun m => 0 <= m /\ m < c) k j us d
 | [], j, d, acc, _, _, _, hc => by
  unfold loWs at hc
  unfold frTs
  exact ⟨hc, trivial⟩
 | u :: r, j, d, acc, hd, h2, h, hc => by
  have h01 := zfy k j
  unfold wfTs at h
  unfold loWs at hc
  obtain ⟨g1, g2⟩ := zxi c k r (j + 1) d _ hd h2 h.2 hc
  have g3 := zxp g1
  rw [za6 (by omega) (by omega)] at g3
  unfold frTs
  exact ⟨g3.1, zaa7 c u _ h.1 g3.2, g2⟩
end
mutual
def okR (φ : Tm -> Int -> Option (Option Tm)) (ψ : Tm -> Int -> Option Tm) : Tm -> Int -> Prop
 | .mk k n s ls us, d => φ (.mk k n s ls us) d = some (ψ (.mk k n s ls us) d) /\ (∀ x, ψ (.mk k n s ls us) d = some x -> za4 x = za4 (.mk k n s ls us)) /\ okRs φ ψ k 0 us d
def okRs (φ : Tm -> Int -> Option (Option Tm)) (ψ : Tm -> Int -> Option Tm) (k : Int) : Int -> List Tm -> Int -> Prop
 | _, [], _ => True
 | j, u :: r, d => okR φ ψ u (d + za9 k j) /\ okRs φ ψ k (j + 1) r d
end
mutual
theorem zsh {φ : Tm -> Int -> Option (Option Tm)} {ψ : Tm -> Int -> Option Tm} : ∀ (t : Tm) (d l : Int), okR φ ψ t d -> wfT t d -> (za4 t : Int) <= l -> l <= 3000 -> zdd φ t d l = some (goP ψ t d, l - (za4 t : Int)) /\ za4 (goP ψ t d) = za4 t
 | .mk k n s ls us, d, l, hr, hw, hl, hl2 => by
  have hsz : za4 (.mk k n s ls us) = 1 + ls.length + zb6 us := by rw [za4]
  unfold okR at hr
  obtain ⟨r1, r2, r3⟩ := hr
  unfold wfT at hw
  rw [zdd, r1, goP]
  cases hψ : ψ (.mk k n s ls us) d with
  | some x =>
   have hx := r2 x hψ
   simp only
   rw [zgb (zch x (by omega)), if_pos (by omega), za6 (by omega) (by omega), decide_eq_true (by omega), hx]
   exact ⟨rfl, rfl⟩
  | none =>
   simp only
   obtain ⟨g1, g2⟩ := zpn k us 0 d (l - (1 + (ls.length : Int))) r3 hw.1.2.1 hw.1.2.2 hw.2 (by omega) (by omega)
   rw [za6 (n := 1 + (ls.length : Int)) (by omega) (by omega), za6 (n := l - (1 + (ls.length : Int))) (by omega) (by omega), decide_eq_true (by omega), g1]
   refine ⟨?_, by rw [za4, za4, g2]⟩
   show some (_, _) = some (_, _)
   rw [hsz]
   congr 2
   omega
theorem zpn {φ : Tm -> Int -> Option (Option Tm)} {ψ : Tm -> Int -> Option Tm} (k : Int) : ∀ (us : List Tm) (j d l : Int), okRs φ ψ k j us d -> 0 <= d -> d <= 200 -> wfTs k j us d -> (zb6 us : Int) <= l -> l <= 3000 -> zck φ k j us d l = some (goPs ψ k j us d, l - (zb6 us : Int)) /\ zb6 (goPs ψ k j us d) = zb6 us
 | [], j, d, l, _, _, _, _, _, _ => by
  rw [zck, goPs, zb6]
  simp
 | u :: r, j, d, l, hr, hd, h2, hw, hl, hl2 => by
  have h01 := zfy k j
  have hsz : zb6 (u :: r) = za4 u + zb6 r := by rw [zb6]
  unfold okRs at hr
  unfold wfTs at hw
  obtain ⟨g1, g2⟩ := zsh u (d + za9 k j) l hr.1 hw.1 (by omega) hl2
  obtain ⟨g3, g4⟩ := zpn k r (j + 1) d (l - (za4 u : Int)) hr.2 hd h2 hw.2 (by omega) (by omega)
  rw [zck, za6 (n := d + za9 k j) (by omega) (by omega), g1]
  simp only
  rw [g3]
  simp only
  refine ⟨?_, by rw [goPs, zb6, zb6, g2, g4]⟩
  rw [goPs, hsz]
  congr 2
  omega
end
theorem zsp {φ : Tm -> Int -> Option (Option Tm)} {ψ : Tm -> Int -> Option Tm} {t : Tm} (hr : zaz t = true) (hs : za4 t <= 3000) (ho : okR φ ψ t 0) (hw : wfT (goP ψ t 0) 0) : zd4 φ t = some (goP ψ t 0) /\ za4 (goP ψ t 0) = za4 t /\ zaz (goP ψ t 0) = true := by
 obtain ⟨g1, g2⟩ := zsh t 0 3000 ho (zdi hr) (by omega) (by omega)
 have g3 := zvx hw (by omega)
 unfold zd4
 rw [hr]
 simp only
 rw [g1]
 unfold zvy
 simp only
 rw [g3]
 exact ⟨rfl, g2, rfl⟩
theorem zpz (ψ : Tm -> Int -> Option Tm) (k : Int) : ∀ (us : List Tm) (j d : Int), (goPs ψ k j us d).length = us.length
 | [], j, d => by rw [goPs]
 | u :: r, j, d => by rw [goPs, List.length_cons, List.length_cons, zpz ψ k r]
mutual
theorem zx5 (b : Int) (hb : -2199023255552 <= b /\ b <= 2199023255552) : ∀ (t : Tm) (d : Int), wfT t d -> frT (fun m => 0 <= m + b) t d -> okR (zcm b 0) (shS b) t d
 | .mk k n s ls us, d, hw, hf => by
  unfold wfT at hw
  unfold frT at hf
  obtain ⟨⟨h1, h2, h3⟩, h4⟩ := hw
  unfold okR
  refine ⟨?_, fun x hx => ?_, ztx b hb k us 0 d h4 hf.2⟩
  ·rw [zt0, zdr]
   by_cases hk : k = 1
   ·subst hk
    obtain ⟨_, e2, e3⟩ := zjl h1
    rw [za6 (n := n - d) (by omega) (by omega), za6 (n := n - d + b) (by omega) (by omega), za6 (n := n + b) (by omega) (by omega)]
    by_cases hdn : d <= n
    ·have := hf.1 rfl hdn
     rw [if_pos ⟨rfl, hdn⟩, decide_eq_true (show 0 <= n - d + b by omega), decide_eq_false (show ¬ n - d < 0 by omega)]
     rfl
    ·rw [if_neg (fun h => hdn h.2), decide_eq_true (show n - d < 0 by omega)]
     rfl
   ·rw [if_neg (fun h => hk h.1), decide_eq_false hk]
    rfl
  ·rw [zdr] at hx
   split at hx
   ·rename_i hc
    cases hx
    obtain ⟨rfl, _⟩ := hc
    rw [(zjl h1).1]
    unfold vM
    rw [za4, za4]
   ·cases hx
theorem ztx (b : Int) (hb : -2199023255552 <= b /\ b <= 2199023255552) (k : Int) : ∀ (us : List Tm) (j d : Int), wfTs k j us d -> frTs (fun m => 0 <= m + b) k j us d -> okRs (zcm b 0) (shS b) k j us d
 | [], j, d, _, _ => by unfold okRs; trivial
 | u :: r, j, d, hw, hf => by
  unfold wfTs at hw
  unfold frTs at hf
  unfold okRs
  exact ⟨zx5 b hb u _ hw.1 hf.1, ztx b hb k r _ d hw.2 hf.2⟩
end
mutual
theorem zaa5 (b : Int) : ∀ (t : Tm) (d : Int), wfT t d -> frT (fun m => 0 <= m + b /\ m + b < 1099511627776) t d -> wfT (goP (shS b) t d) d
 | .mk k n s ls us, d, hw, hf => by
  unfold wfT at hw
  unfold frT at hf
  obtain ⟨⟨h1, h2, h3⟩, h4⟩ := hw
  rw [goP, zdr]
  by_cases hc : k = 1 /\ d <= n
  ·rw [if_pos hc]
   have := hf.1 hc.1 hc.2
   exact zaao (by omega) (by omega) h2 h3
  ·rw [if_neg hc]
   simp only
   unfold wfT
   rw [zpz]
   exact ⟨⟨h1, h2, h3⟩, zxj b k us 0 d h4 hf.2⟩
theorem zxj (b k : Int) : ∀ (us : List Tm) (j d : Int), wfTs k j us d -> frTs (fun m => 0 <= m + b /\ m + b < 1099511627776) k j us d -> wfTs k j (goPs (shS b) k j us d) d
 | [], j, d, _, _ => by rw [goPs]; unfold wfTs; trivial
 | u :: r, j, d, hw, hf => by
  unfold wfTs at hw
  unfold frTs at hf
  rw [goPs]
  unfold wfTs
  exact ⟨zaa5 b u _ hw.1 hf.1, zxj b k r _ d hw.2 hf.2⟩
end
mutual
theorem zzx (b : Int) (Q : Int -> Prop) : ∀ (t : Tm) (d : Int), frT (fun m => Q (m + b)) t d -> frT Q (goP (shS b) t d) d
 | .mk k n s ls us, d, hf => by
  unfold frT at hf
  rw [goP, zdr]
  by_cases hc : k = 1 /\ d <= n
  ·rw [if_pos hc]
   have := hf.1 hc.1 hc.2
   unfold vM frT
   exact ⟨fun _ _ => by rw [show n + b - d = n - d + b by omega]; exact this, by unfold frTs; trivial⟩
  ·rw [if_neg hc]
   simp only
   unfold frT
   exact ⟨fun hk hd => absurd ⟨hk, hd⟩ hc, zx6 b Q k us 0 d hf.2⟩
theorem zx6 (b : Int) (Q : Int -> Prop) (k : Int) : ∀ (us : List Tm) (j d : Int), frTs (fun m => Q (m + b)) k j us d -> frTs Q k j (goPs (shS b) k j us d) d
 | [], j, d, _ => by rw [goPs]; unfold frTs; trivial
 | u :: r, j, d, hf => by
  unfold frTs at hf
  rw [goPs]
  unfold frTs
  exact ⟨zzx b Q u _ hf.1, zx6 b Q k r _ d hf.2⟩
end
mutual
theorem zov : ∀ (t : Tm) (d : Int), wfT t d -> goP (shS 0) t d = t
 | .mk k n s ls us, d, hw => by
  unfold wfT at hw
  rw [goP, zdr]
  by_cases hc : k = 1 /\ d <= n
  ·rw [if_pos hc]
   obtain ⟨rfl, _⟩ := hc
   rw [(zjl hw.1.1).1, Int.add_zero]
  ·rw [if_neg hc]
   simp only
   rw [zpa k us 0 d hw.2]
theorem zpa (k : Int) : ∀ (us : List Tm) (j d : Int), wfTs k j us d -> goPs (shS 0) k j us d = us
 | [], j, d, _ => by rw [goPs]
 | u :: r, j, d, hw => by
  unfold wfTs at hw
  rw [goPs, zov u _ hw.1, zpa k r _ d hw.2]
end
theorem zhv {b : Int} (hb : -1099511627776 <= b /\ b <= 1099511627776) {t : Tm} (hr : zaz t = true) (hs : za4 t <= 3000) (hf : frT (fun m => 0 <= m + b /\ m + b < 1099511627776) t 0) :
  zex b 0 t = some (goP (shS b) t 0) /\ za4 (goP (shS b) t 0) = za4 t /\ zaz (goP (shS b) t 0) = true := by
 have hw := zdi hr
 obtain ⟨g1, g2⟩ := zsp hr hs (zx5 b (by omega) t 0 hw (zhb (fun m h => h.1) t 0 hf)) (zaa5 b t 0 hw hf)
 refine ⟨?_, g2⟩
 have hbad : zif b 0 = false := by
  unfold zif
  rw [decide_eq_false (by omega), decide_eq_false (by omega)]
  rfl
 unfold zex zel
 rw [hbad]
 exact g1
mutual
theorem zxk (gs : List Tm) (hg : gs.length <= 1000) : ∀ (t : Tm) (d : Int), wfT t d -> frT (fun m => (gs.length : Int) <= m) t d -> okR (putR gs) (puS gs) t d
 | .mk k n s ls us, d, hw, hf => by
  unfold wfT at hw
  unfold frT at hf
  obtain ⟨⟨h1, h2, h3⟩, h4⟩ := hw
  unfold okR
  refine ⟨?_, fun x hx => ?_, ztk gs hg k us 0 d h4 hf.2⟩
  ·rw [zy2, zwc, zp7]
   by_cases hk : k = 1
   ·subst hk
    obtain ⟨_, e2, e3⟩ := zjl h1
    rw [za6 (n := n - d) (by omega) (by omega), za6 (n := n - (gs.length : Int)) (by omega) (by omega)]
    by_cases hdn : d <= n
    ·have := hf.1 rfl hdn
     rw [if_pos ⟨rfl, hdn⟩, if_neg (by omega), decide_eq_false (show ¬ n - d < (gs.length : Int) by omega), decide_eq_true (show 0 <= n - d by omega)]
     rfl
    ·rw [if_neg (fun h => hdn h.2), decide_eq_false (show ¬ 0 <= n - d by omega), decide_eq_true (show n - d < (gs.length : Int) by omega)]
     rfl
   ·rw [if_neg (fun h => hk h.1), decide_eq_false hk]
    rfl
  ·rw [zp7] at hx
   split at hx
   ·rename_i hc
    obtain ⟨rfl, hd⟩ := hc
    have := hf.1 rfl hd
    rw [if_neg (by omega)] at hx
    cases hx
    rw [(zjl h1).1]
    unfold vM
    rw [za4, za4]
   ·cases hx
theorem ztk (gs : List Tm) (hg : gs.length <= 1000) (k : Int) : ∀ (us : List Tm) (j d : Int), wfTs k j us d -> frTs (fun m => (gs.length : Int) <= m) k j us d -> okRs (putR gs) (puS gs) k j us d
 | [], j, d, _, _ => by unfold okRs; trivial
 | u :: r, j, d, hw, hf => by
  unfold wfTs at hw
  unfold frTs at hf
  unfold okRs
  exact ⟨zxk gs hg u _ hw.1 hf.1, ztk gs hg k r _ d hw.2 hf.2⟩
end
section
variable {t : Tm} (hr : zaz t = true) (hB : tmB t) (hl : zi6 t <= 549755813888)
theorem zuz (b : Int) (hb : 0 <= b /\ b <= 1000) : zaz t = true -> zi6 t <= 549755813888 -> frT (fun m => 0 <= m + b /\ m + b < 1099511627776) t 0 := by
 intro hr hl
 unfold zi6 at hl
 rw [if_pos hr] at hl
 exact zhb (fun m h => by omega) t 0 (zaa7 _ t 0 (zdi hr) hl)
include hr hB hl
theorem zxc (b : Int) (hb : 0 <= b /\ b <= 1000) : ∃ x, zex b 0 t = some x /\ tmB x /\ zex (-b) 0 x = some t := by
 have hs := zji hB hr
 obtain ⟨g1, g2, g3⟩ := zhv (by omega) hr hs (zuz b hb hr hl)
 refine ⟨_, g1, zch _ (by omega), ?_⟩
 obtain ⟨k1, _, _⟩ := zhv (b := -b) (by omega) g3 (by omega) (zzx b (fun m => 0 <= m + -b /\ m + -b < 1099511627776) t 0 (zhb (fun m h => by omega) t 0 (zyq t 0 (zdi hr))))
 rw [k1, zo1 b (-b) hb.1 t 0 (Int.le_refl _), show b + -b = 0 by omega, zov t 0 (zdi hr)]
theorem zv6 (gs : List Tm) (hg : gs.length <= 1000) (hgr : ∀ g ∈ gs, zaz g = true) : ∃ x, zex (gs.length : Int) 0 t = some x /\ tmB x /\ zhn gs x = some t := by
 have hs := zji hB hr
 obtain ⟨g1, g2, g3⟩ := zhv (by omega) hr hs (zuz (gs.length : Int) (by omega) hr hl)
 refine ⟨_, g1, zch _ (by omega), ?_⟩
 have hz := ztm gs 0 (Int.le_refl _) t 0 (Int.le_refl _)
 rw [Int.zero_add, Int.add_zero, zov t 0 (zdi hr)] at hz
 obtain ⟨k1, _, _⟩ := zsp g3 (by omega) (zxk gs hg _ 0 (zdi g3) (zzx (gs.length : Int) (fun m => (gs.length : Int) <= m) t 0 (zhb (fun m h => by omega) t 0 (zyq t 0 (zdi hr))))) (by rw [hz]; exact zdi hr)
 have hany : (gs.any fun u => !zaz u) = false := List.any_eq_false.2 fun g hm => by rw [hgr g hm]; simp
 unfold zhn zel
 rw [hany]
 simp only
 rw [k1, hz]
end
end Go.Proofs.YtmkpiekbpakigaaDoor
end
section
set_option linter.unusedVariables false
set_option linter.unusedSimpArgs false
namespace Go.Proofs.YtmkpiekbpakigaaDoor
open Go.RowKit Go.Proofs.Base Go.Proofs.Sym
def mbG (ys : List TT) (A : Option Addr) (c : Nat) (gs : List TT) (w : World) : Prop := amG ys w /\ TsIn w A c gs
theorem mbG.up (ys : List TT) (A : Option Addr) (c : Nat) (gs : List TT) : Up (mbG ys A c gs) := (amG.up _).and (TsIn.up _ _ _)
set_option maxHeartbeats 8000000 in
theorem zod (t : TT) (A : Option Addr) (c : Nat) (gs : List TT) (by' : Int) (hB : tmB t.tm) (hgB : ∀ g ∈ gs, tmB g.tm) : PCall Tryd.prog 9 [t.val, .slice A gs.length c, .int .i64 by'] (mbG [t] A c gs) (fun r => r = .bool true) (fun _ _ => True) := by
 have hany := zoi t
 obtain ⟨ab, hab⟩ : ∃ b, zbf 4 1099511627776 t.tm = b := ⟨_, rfl⟩
 rw [hab] at hany
 have hloo := zsr t
 obtain ⟨lo, hlo⟩ : ∃ b, zi6 t.tm = b := ⟨_, rfl⟩
 rw [hlo] at hloo
 obtain ⟨xtk, xtn, xts, xtla, xtlc, xtls, xtaa, xtac, xtus⟩ := t
 refine zaq zab 97 [.tmp 6] Tryd.func9 rfl rfl (by kernel_rfl) rfl _ (leB rfl) (mbG.up _ _ _ _) (fun _ => Up.true) ?_
 refine zaf zab [3] _ _ _ ?_
 refine zae zsk (fun _ => rfl) (fun w h => h.1.1.1) ?_
 rintro r rfl
 refine zai.ent (st' := { s := [(3, .one (.p 0 0)), (1, .one (.v (.slice A gs.length c))), (2, .one (.v (.int .i64 by')))], m := [(0, .cells 41 ((TT.mk xtk xtn xts xtla xtlc xtls xtaa xtac xtus).cells.map SA.v))], k := 1, f := [mbG [(TT.mk xtk xtn xts xtla xtlc xtls xtaa xtac xtus)] A c gs] }) (zaa [(0, .blk 0)] rfl rfl rfl rfl (leB rfl) (rs rfl rfl) (rm rfl rfl) ⟨⟨mbG.up _ _ _ _, fun w h => h.2.1⟩, trivial⟩) ?_
 refine zaf zab [5] _ _ _ ?_
 refine zae (zsy (TT.mk xtk xtn xts xtla xtlc xtls xtaa xtac xtus) A c gs) (fun _ => rfl) (fun w h => ⟨h.1.1.get 0 rfl, h.1.2⟩) ?_
 rintro r ⟨gb, rfl, hgb⟩
 cases gb with
 | true => exact ⟨_, rfl, Told.val rfl⟩
 | false =>
 have h12 : gs.length <= 12 := hgb rfl
 refine zae hany (fun _ => rfl) (fun w h => h.2.1.1.get 0 rfl) ?_
 rintro r rfl
 cases ab with
 | false => exact ⟨_, rfl, Told.val rfl⟩
 | true =>
 have hright : zaz (TT.mk xtk xtn xts xtla xtlc xtls xtaa xtac xtus).tm = true := hab
 refine zae hloo (fun _ => rfl) (fun w h => h.2.2.1.1.get 0 rfl) ?_
 rintro r rfl
 refine zad (fun h => ?_) (fun hn0 => ?_)
 ·exact ⟨_, rfl, Told.val rfl⟩
 have hb0 : lo <= 549755813888 := by
  have h : decide (549755813888 < lo) = false := hn0
  have := of_decide_eq_false h
  omega
 clear hn0
 refine zad (fun h => ?_) (fun hn1 => ?_)
 ·exact ⟨_, rfl, Told.val rfl⟩
 have hb1 : 0 <= by' := by
  have h : decide (by' < 0) = false := hn1
  have := of_decide_eq_false h
  omega
 clear hn1
 refine zad (fun h => ?_) (fun hn2 => ?_)
 ·exact ⟨_, rfl, Told.val rfl⟩
 have hb2 : by' <= 1000 := by
  have h : decide (1000 < by') = false := hn2
  have := of_decide_eq_false h
  omega
 clear hn2
 have hlo : zi6 (TT.mk xtk xtn xts xtla xtlc xtls xtaa xtac xtus).tm <= 549755813888 := by rw [hlo]; exact hb0
 refine zai.ent (st' := { s := [(3, .one (.p 0 0)), (1, .one (.v (.slice A gs.length c))), (2, .one (.v (.int .i64 by')))], m := [(0, .cells 41 ((TT.mk xtk xtn xts xtla xtlc xtls xtaa xtac xtus).cells.map SA.v))], k := 1, f := [mbG [(TT.mk xtk xtn xts xtla xtlc xtls xtaa xtac xtus)] A c gs] }) (zaa [(0, .blk 0)] rfl rfl rfl rfl (leB rfl) (rs rfl rfl) (rm rfl rfl) ⟨⟨mbG.up _ _ _ _, fun w h => h.2.2.2.1⟩, trivial⟩) ?_
 refine zai.cutX (X := Unit) (fun _ => ∀ g ∈ gs, zaz g.tm = true) (fun _ => { s := [(3, .one (.p 0 0)), (1, .one (.v (.slice A gs.length c))), (2, .one (.v (.int .i64 by')))], m := [(0, .cells 41 ((TT.mk xtk xtn xts xtla xtlc xtls xtaa xtac xtus).cells.map SA.v))], k := 1, f := [mbG [(TT.mk xtk xtn xts xtla xtlc xtls xtaa xtac xtus)] A c gs] }) ?_ (fun _ hgr => ?_)
 ·refine zaf zab [8] _ _ _ ?_
  refine ⟨⟨Nat, fun i => i <= gs.length /\ ∀ g ∈ gs.take i, zaz g.tm = true, fun i => { s := [(3, .one (.p 0 0)), (1, .one (.v (.slice A gs.length c))), (2, .one (.v (.int .i64 by'))), (7, .one (.v (.int .i64 (i : Int))))], m := [(0, .cells 41 ((TT.mk xtk xtn xts xtla xtlc xtls xtaa xtac xtus).cells.map SA.v))], k := 1, f := [mbG [(TT.mk xtk xtn xts xtla xtlc xtls xtaa xtac xtus)] A c gs] }, fun i => gs.length - i, ⟨0, ⟨Nat.zero_le _, fun g hg => by simp at hg⟩, (zaa [(0, .blk 0)] rfl rfl rfl rfl (leB rfl) (rs rfl rfl) (rm rfl rfl) ⟨⟨mbG.up _ _ _ _, fun w h => h.1⟩, trivial⟩)⟩, ?_⟩⟩
  rintro i ⟨hi, hA⟩
  have hi : i <= gs.length := hi
  have hA : ∀ g ∈ gs.take i, zaz g.tm = true := hA
  refine zad (fun hlt0 => ?_) (fun hge0 => ?_)
  rotate_left
  ·have hge : gs.length <= i := by
    have h : decide ((i : Int) < (gs.length : Int)) = false := hge0
    have := of_decide_eq_false h
    omega
   rw [List.take_of_length_le hge] at hA
   exact ⟨(), hA, (zaa [(0, .blk 0)] rfl rfl rfl rfl (leB rfl) (rs rfl rfl) (rm rfl rfl) ⟨⟨mbG.up _ _ _ _, fun w h => h.1⟩, trivial⟩)⟩
  have hlt : i < gs.length := by
   have h : decide ((i : Int) < (gs.length : Int)) = true := hlt0
   have := of_decide_eq_true h
   omega
  clear hlt0
  obtain ⟨u, hu⟩ : ∃ u, gs[i]? = some u := ⟨_, List.getElem?_eq_getElem hlt⟩
  have hur := zoi u
  have hstep : zaz u.tm = true -> ∀ g ∈ gs.take (i + 1), zaz g.tm = true := fun hr g hg => by
   rw [List.take_add_one, hu] at hg
   rcases List.mem_append.1 hg with hg | hg
   ·exact hA g hg
   ·simp at hg
    rw [hg]
    exact hr
  have hrd : zaz u.tm = zbf 4 1099511627776 u.tm := rfl
  obtain ⟨ub, hub⟩ : ∃ b, zbf 4 1099511627776 u.tm = b := ⟨_, rfl⟩
  rw [hub] at hur hrd
  clear hub
  refine zai.told (p := ∃ a, A = some a) (fun w h => ?_) ?_
  ·obtain ⟨⟨a, ha, _⟩, _⟩ := h.1.2.arg hu
   exact ⟨a, ha⟩
  rintro ⟨b0, rfl⟩
  obtain ⟨xuk, xun, xus, xula, xulc, xuls, xuaa, xuac, xuus⟩ := u
  refine zaf zab [] _ _ _ ?_
  refine ⟨{ n := i }, ⟨rfl, hlt, fun w h => rfl⟩, ?_⟩
  refine ⟨{ cs := (TT.mk xuk xun xus xula xulc xuls xuaa xuac xuus).cells }, ⟨TT.cells_one (TT.mk xuk xun xus xula xulc xuls xuaa xuac xuus), rfl, fun w h => ?_⟩, ?_⟩
  ·obtain ⟨⟨a, ha, hc⟩, _⟩ := h.1.2.arg hu
   cases ha
   exact ⟨_, rfl, hc⟩
  refine zae hur (fun _ => rfl) (fun w h => (h.1.2.arg hu).2) ?_
  rintro r rfl
  cases ub with
  | false => exact ⟨_, rfl, Told.val rfl⟩
  | true =>
  refine ⟨i + 1, ⟨hlt, hstep hrd⟩, by show gs.length - (i + 1) < gs.length - i; omega, ?_⟩
  exact zaa [(0, .blk 0)] rfl rfl rfl rfl (leB rfl) ⟨⟨_, rfl, rfl⟩, ⟨_, rfl, rfl⟩, ⟨_, rfl, rfl⟩, ⟨_, rfl, oneI (za6 (by omega) (by omega))⟩, trivial⟩ (rm rfl rfl) ⟨⟨mbG.up _ _ _ _, fun w h => h.2.1⟩, trivial⟩
 obtain ⟨xM, e1, hxB, e2⟩ := zxc hright hB hlo by' ⟨hb1, hb2⟩
 obtain ⟨pM, e3, hpB, e4⟩ := zv6 hright hB hlo (gs.map TT.tm) (by rw [List.length_map]; omega) (fun g hg => by obtain ⟨u, hu, rfl⟩ := List.mem_map.1 hg; exact hgr u hu)
 rw [List.length_map] at e3
 have l1 := zg1 (TT.mk xtk xtn xts xtla xtlc xtls xtaa xtac xtus) by' 0 hB
 rw [e1] at l1
 refine zaf zab [11] _ _ _ ?_
 refine zac [] l1 rfl trivial rfl rfl (fun w h => ⟨h.1.1.1, h.1.1.get 0 rfl⟩) (fun x _ => ?_) (fun x hx => ?_)
 ·obtain ⟨xvk, xvn, xvs, xvla, xvlc, xvls, xvaa, xvac, xvus⟩ := x
  exact ⟨rfl, rfl⟩
 obtain ⟨xak, xan, xas, xala, xalc, xals, xaaa, xaac, xaus⟩ := x
 have ha : (TT.mk xak xan xas xala xalc xals xaaa xaac xaus).tm = xM := hx
 refine zai.ent (st' := { s := [(3, .one (.p 0 0)), (8, .one (.p 1 0)), (9, .one (.v (.bool true))), (1, .one (.v (.slice A gs.length c))), (2, .one (.v (.int .i64 by')))], m := [(0, .cells 41 ((TT.mk xtk xtn xts xtla xtlc xtls xtaa xtac xtus).cells.map SA.v)), (1, .cells 41 ((TT.mk xak xan xas xala xalc xals xaaa xaac xaus).cells.map SA.v))], k := 2, f := [mbG [(TT.mk xtk xtn xts xtla xtlc xtls xtaa xtac xtus), (TT.mk xak xan xas xala xalc xals xaaa xaac xaus)] A c gs] }) (zaa [(0, .blk 0), (1, .blk 1)] rfl rfl rfl rfl (leB rfl) (rs rfl rfl) (rm rfl rfl) ⟨⟨mbG.up _ _ _ _, fun w h => ⟨h.2.1.1.snoc h.1, h.2.1.2⟩⟩, trivial⟩) ?_
 have l2 := zg1 (TT.mk xak xan xas xala xalc xals xaaa xaac xaus) (IntKind.i64.wrap (0 - by')) 0 (by rw [ha]; exact hxB)
 rw [za6 (n := 0 - by') (by omega) (by omega), ha, show (0 : Int) - by' = -by' by omega, e2] at l2
 rw [show -by' = IntKind.i64.wrap (0 - by') by rw [za6 (by omega) (by omega)]; omega] at l2
 refine zaf zab [12] _ _ _ ?_
 refine zac [] l2 rfl trivial rfl rfl (fun w h => ⟨h.1.1.1, h.1.1.get 1 rfl⟩) (fun x _ => ?_) (fun x hx => ?_)
 ·obtain ⟨xvk, xvn, xvs, xvla, xvlc, xvls, xvaa, xvac, xvus⟩ := x
  exact ⟨rfl, rfl⟩
 obtain ⟨xbk, xbn, xbs, xbla, xblc, xbls, xbaa, xbac, xbus⟩ := x
 have hb : (TT.mk xbk xbn xbs xbla xblc xbls xbaa xbac xbus).tm = (TT.mk xtk xtn xts xtla xtlc xtls xtaa xtac xtus).tm := hx
 refine zai.ent (st' := { s := [(3, .one (.p 0 0)), (8, .one (.p 1 0)), (10, .one (.p 2 0)), (9, .one (.v (.bool true))), (11, .one (.v (.bool true))), (1, .one (.v (.slice A gs.length c))), (2, .one (.v (.int .i64 by')))], m := [(0, .cells 41 ((TT.mk xtk xtn xts xtla xtlc xtls xtaa xtac xtus).cells.map SA.v)), (1, .cells 41 ((TT.mk xak xan xas xala xalc xals xaaa xaac xaus).cells.map SA.v)), (2, .cells 41 ((TT.mk xbk xbn xbs xbla xblc xbls xbaa xbac xbus).cells.map SA.v))], k := 3, f := [mbG [(TT.mk xtk xtn xts xtla xtlc xtls xtaa xtac xtus), (TT.mk xak xan xas xala xalc xals xaaa xaac xaus), (TT.mk xbk xbn xbs xbla xblc xbls xbaa xbac xbus)] A c gs] }) (zaa [(0, .blk 0), (1, .blk 1), (2, .blk 2)] rfl rfl rfl rfl (leB rfl) (rs rfl rfl) (rm rfl rfl) ⟨⟨mbG.up _ _ _ _, fun w h => ⟨h.2.1.1.snoc h.1, h.2.1.2⟩⟩, trivial⟩) ?_
 have l3 := zg1 (TT.mk xtk xtn xts xtla xtlc xtls xtaa xtac xtus) (gs.length : Int) 0 hB
 rw [e3] at l3
 refine zaf zab [13] _ _ _ ?_
 refine zac [] l3 rfl trivial rfl rfl (fun w h => ⟨h.1.1.1, h.1.1.get 0 rfl⟩) (fun x _ => ?_) (fun x hx => ?_)
 ·obtain ⟨xvk, xvn, xvs, xvla, xvlc, xvls, xvaa, xvac, xvus⟩ := x
  exact ⟨rfl, rfl⟩
 obtain ⟨xpk, xpn, xps, xpla, xplc, xpls, xpaa, xpac, xpus⟩ := x
 have hp : (TT.mk xpk xpn xps xpla xplc xpls xpaa xpac xpus).tm = pM := hx
 refine zai.ent (st' := { s := [(3, .one (.p 0 0)), (8, .one (.p 1 0)), (10, .one (.p 2 0)), (12, .one (.p 3 0)), (9, .one (.v (.bool true))), (11, .one (.v (.bool true))), (13, .one (.v (.bool true))), (1, .one (.v (.slice A gs.length c))), (2, .one (.v (.int .i64 by')))], m := [(0, .cells 41 ((TT.mk xtk xtn xts xtla xtlc xtls xtaa xtac xtus).cells.map SA.v)), (1, .cells 41 ((TT.mk xak xan xas xala xalc xals xaaa xaac xaus).cells.map SA.v)), (2, .cells 41 ((TT.mk xbk xbn xbs xbla xblc xbls xbaa xbac xbus).cells.map SA.v)), (3, .cells 41 ((TT.mk xpk xpn xps xpla xplc xpls xpaa xpac xpus).cells.map SA.v))], k := 4, f := [mbG [(TT.mk xtk xtn xts xtla xtlc xtls xtaa xtac xtus), (TT.mk xak xan xas xala xalc xals xaaa xaac xaus), (TT.mk xbk xbn xbs xbla xblc xbls xbaa xbac xbus), (TT.mk xpk xpn xps xpla xplc xpls xpaa xpac xpus)] A c gs] }) (zaa [(0, .blk 0), (1, .blk 1), (2, .blk 2), (3, .blk 3)] rfl rfl rfl rfl (leB rfl) (rs rfl rfl) (rm rfl rfl) ⟨⟨mbG.up _ _ _ _, fun w h => ⟨h.2.1.1.snoc h.1, h.2.1.2⟩⟩, trivial⟩) ?_
 have l4 := zqh (TT.mk xpk xpn xps xpla xplc xpls xpaa xpac xpus) A c gs (by rw [hp]; exact hpB) hgB
 rw [hp, e4] at l4
 refine zaf zab [14] _ _ _ ?_
 refine zac [] l4 rfl trivial rfl rfl (fun w h => ⟨⟨h.1.1.1, h.1.2⟩, h.1.1.get 3 rfl⟩) (fun x _ => ?_) (fun x hx => ?_)
 ·obtain ⟨xvk, xvn, xvs, xvla, xvlc, xvls, xvaa, xvac, xvus⟩ := x
  exact ⟨rfl, rfl⟩
 obtain ⟨xqk, xqn, xqs, xqla, xqlc, xqls, xqaa, xqac, xqus⟩ := x
 have hq : (TT.mk xqk xqn xqs xqla xqlc xqls xqaa xqac xqus).tm = (TT.mk xtk xtn xts xtla xtlc xtls xtaa xtac xtus).tm := hx
 refine zai.ent (st' := { s := [(3, .one (.p 0 0)), (8, .one (.p 1 0)), (10, .one (.p 2 0)), (12, .one (.p 3 0)), (14, .one (.p 4 0)), (9, .one (.v (.bool true))), (11, .one (.v (.bool true))), (13, .one (.v (.bool true))), (15, .one (.v (.bool true))), (1, .one (.v (.slice A gs.length c))), (2, .one (.v (.int .i64 by')))], m := [(0, .cells 41 ((TT.mk xtk xtn xts xtla xtlc xtls xtaa xtac xtus).cells.map SA.v)), (1, .cells 41 ((TT.mk xak xan xas xala xalc xals xaaa xaac xaus).cells.map SA.v)), (2, .cells 41 ((TT.mk xbk xbn xbs xbla xblc xbls xbaa xbac xbus).cells.map SA.v)), (3, .cells 41 ((TT.mk xpk xpn xps xpla xplc xpls xpaa xpac xpus).cells.map SA.v)), (4, .cells 41 ((TT.mk xqk xqn xqs xqla xqlc xqls xqaa xqac xqus).cells.map SA.v))], k := 5, f := [mbG [(TT.mk xtk xtn xts xtla xtlc xtls xtaa xtac xtus), (TT.mk xak xan xas xala xalc xals xaaa xaac xaus), (TT.mk xbk xbn xbs xbla xblc xbls xbaa xbac xbus), (TT.mk xpk xpn xps xpla xplc xpls xpaa xpac xpus), (TT.mk xqk xqn xqs xqla xqlc xqls xqaa xqac xqus)] A c gs] }) (zaa [(0, .blk 0), (1, .blk 1), (2, .blk 2), (3, .blk 3), (4, .blk 4)] rfl rfl rfl rfl (leB rfl) (rs rfl rfl) (rm rfl rfl) ⟨⟨mbG.up _ _ _ _, fun w h => ⟨h.2.1.1.snoc h.1, h.2.1.2⟩⟩, trivial⟩) ?_
 refine zaf zab [] _ _ _ ?_
 refine zae (zhq (TT.mk xbk xbn xbs xbla xblc xbls xbaa xbac xbus) (TT.mk xtk xtn xts xtla xtlc xtls xtaa xtac xtus) hb) (fun _ => rfl) (fun w h => ⟨h.1.1.get 2 rfl, h.1.1.get 0 rfl⟩) ?_
 rintro r rfl
 refine zae (zhq (TT.mk xqk xqn xqs xqla xqlc xqls xqaa xqac xqus) (TT.mk xtk xtn xts xtla xtlc xtls xtaa xtac xtus) hq) (fun _ => rfl) (fun w h => ⟨h.2.1.1.get 4 rfl, h.2.1.1.get 0 rfl⟩) ?_
 rintro r rfl
 exact ⟨_, rfl, Told.val rfl⟩
end Go.Proofs.YtmkpiekbpakigaaDoor
end
section
set_option linter.unusedVariables false
set_option linter.unusedSimpArgs false
namespace Go.Proofs.YtmkpiekbpakigaaDoor
open Go.ChangeShapes Go.WideShapes Go.ChangeAt Go.RowKit Go.Proofs.Base Go.Proofs.Sym
theorem zkw (t : TT) (A : Option Addr) (c : Nat) (gs : List TT) (by' : Int) (ht : TTB t) (hg : ∀ g ∈ gs, TTB g) (w : World) (hp : mbG [t] A c gs w) : Calls Tryd.prog 9 #[t.val, .slice A gs.length c, .int .i64 by'] w fun e w' => e = .returned (.bool true) /\ Below w.heap.size w w' :=
 zyp (zod t A c gs by' (zn1 t ht) (fun g h => zn1 g (hg g h))) (mbG.up _ _ _ _) w hp
end Go.Proofs.YtmkpiekbpakigaaDoor
end
