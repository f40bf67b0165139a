/- What the claim needs of Tm9, Cd5, Cd6, Cd1, Cd2, Cd3, Cd4, Cd7, Dc1, Dc2, Pl1, Dc3, in one text. -/
import Derived.IntWalk
import Derived.Test.YtmkpiekbpakigaaGreatDoorDomd
import Derived.Test.YtmkpiekbpakigaaGreatDoorDome
section
set_option linter.unusedVariables false
set_option linter.unusedSimpArgs false
namespace Go.Proofs.YtmkpiekbpakigaaGreatDoor
open Go.RowKit Go.Proofs.Base Go.Proofs.Sym
/-- The count behind a node. -/
def cntB (c : Int) (ls : List Lv) : Int := IntKind.i64.wrap (c + IntKind.i64.wrap (1 + (ls.length : Int)))
mutual
def visT (c : Int) : Tm → Int × Bool
  | .mk _ _ _ ls args => match decide (cntB c ls ≤ 3000) with
    | true => visTs (cntB c ls) args
    | false => (cntB c ls, false)
def visTs (c : Int) : List Tm → Int × Bool
  | [] => (c, true)
  | t :: r => match (visT c t).2 with
    | true => visTs (visT c t).1 r
    | false => ((visT c t).1, false)
end
def cellRes (b : Bool) (c : Int) : LRes := { v := .one (.v (.bool b)), m := [(0, .cells 3 [.v (.int .i64 c)])], k := 1 }
def ttA (t : TT) : SV := .agg (t.cells.map SA.v)
theorem nodes1_lc (k n : Int) (s : ByteArray) (la : Option Addr) (lc : Nat) (ls : List Lv) (aa : Option Addr) (ac : Nat) (us : List TT) (d c : Int) :
    LCall Tryz.prog 132 [ttA (TT.mk k n s la lc ls aa ac us), .one (.v (.int .i64 d)), .one (.p 0 0)] [(0, .cells 3 [.v (.int .i64 c)])] 1 (fun _ => True) (fun _ : Unit => True) (fun _ => cellRes (decide (cntB c ls ≤ 3000)) (cntB c ls)) := by
  refine lcall_of tabOk 14 [.tmp 5] Tryz.func132 rfl rfl (by kernel_rfl) rfl _ (Nat.le_of_ble_eq_true rfl) Up.true ?_
  refine svc_ok tabOk [] _ _ _ ?_
  refine ⟨_, rfl, (), trivial, rfl, ?_⟩
  exact ent_ren [(0, .blk 0)] rfl rfl rfl rfl (Nat.le_refl _) ⟨⟨_, rfl, rfl⟩, trivial⟩ ⟨⟨_, rfl, rfl⟩, trivial⟩ ⟨⟨Up.true, fun _ _ => trivial⟩, trivial⟩
set_option maxHeartbeats 2000000 in
theorem visit_lc (t : TT) (d c : Int) : LCall Tryz.prog 131 [ttA t, .one (.v (.int .i64 d)), .one (.fn 132 [] [.p 0])] [(0, .cells 3 [.v (.int .i64 c)])] 1 (fun w => TTIn w t) (fun _ : Unit => True) (fun _ => cellRes (visT c t.tm).2 (visT c t.tm).1) := by
  induction hsz : SizeOf.sizeOf t using Nat.strongRecOn generalizing t d c with
  | _ z ih =>
  obtain ⟨k, n, s, la, lc, ls, aa, ac, us⟩ := t
  subst hsz
  by_cases hal : us.length ≤ 9223372036854775807
  rotate_left
  · refine ⟨TTIn.upS _, fun cx e w hw hn0 he hm hlt => ?_⟩
    have := hm.fact.1.node
    have h1 := this.hac
    have h2 := this.ham
    simp only [maxLen] at h2
    omega
  have hn1 := nodes1_lc k n s la lc ls aa ac us d c
  have hspec : visT c (TT.mk k n s la lc ls aa ac us).tm = (match decide (cntB c ls ≤ 3000) with | true => visTs (cntB c ls) (us.map TT.tm) | false => (cntB c ls, false)) := by
    rw [tt_tm, visT]
  obtain ⟨b, hb⟩ : ∃ b, decide (cntB c ls ≤ 3000) = b := ⟨_, rfl⟩
  rw [hb] at hn1 hspec
  rw [hspec]
  obtain ⟨c1, hc1⟩ : ∃ c1, cntB c ls = c1 := ⟨_, rfl⟩
  rw [hc1] at hn1 ⊢
  refine lcall_of tabOk 33 [.tmp 6] Tryz.func131 rfl rfl (by kernel_rfl) rfl _ (Nat.le_of_ble_eq_true rfl) (TTIn.upS _) ?_
  refine svc_ok tabOk [] _ _ _ ?_
  refine callVC_lend [0] hn1 rfl ⟨rfl, trivial⟩ rfl rfl (fun _ _ => trivial) (fun _ _ => ⟨rfl, rfl⟩) (fun _ _ => ?_)
  cases b with
  | false =>
    refine ⟨_, rfl, (), trivial, rfl, ?_⟩
    exact ent_ren [(0, .blk 0)] rfl rfl rfl rfl (Nat.le_refl _) ⟨⟨_, rfl, rfl⟩, trivial⟩ ⟨⟨_, rfl, rfl⟩, trivial⟩ ⟨⟨Up.true, fun _ _ => trivial⟩, trivial⟩
  | true =>
    refine ⟨⟨Nat × Int, fun x => x.1 ≤ us.length ∧ visTs x.2 ((us.map TT.tm).drop x.1) = visTs c1 (us.map TT.tm),
      fun x => { s := [(1, .one (.v (.int .i64 d))), (2, .one (.fn 132 [] [.p 0])), (3, .one (.p 1 0)), (15, .one (.v (.slice aa us.length ac))), (16, .one (.v (.int .i64 (us.length : Int)))), (17, .one (.v (.int .i64 (x.1 : Int))))], m := [(0, .cells 3 [.v (.int .i64 x.2)]), (1, .cells 25 ((TT.mk k n s la lc ls aa ac us).cells.map SA.v))], k := 2, f := [fun w => TTIn w (TT.mk k n s la lc ls aa ac us)], b := 1 },
      fun x => us.length - x.1, ⟨(0, c1), ⟨Nat.zero_le _, rfl⟩, ?_⟩, ?_⟩⟩
    · exact ent_ren [(1, .blk 1), (0, .blk 0)] rfl rfl rfl rfl (Nat.le_of_ble_eq_true rfl) ⟨⟨_, rfl, rfl⟩, ⟨_, rfl, rfl⟩, ⟨_, rfl, rfl⟩, ⟨_, rfl, rfl⟩, ⟨_, rfl, rfl⟩, ⟨_, rfl, rfl⟩, trivial⟩ ⟨⟨_, rfl, rfl⟩, ⟨_, rfl, rfl⟩, trivial⟩ ⟨⟨TTIn.upS _, fun w h => h.2.1⟩, trivial⟩
    rintro ⟨j, cj⟩ ⟨hj, hA⟩
    simp only at hj hA
    refine bsplit_i (fun hlt => ?_) (fun hge => ?_)
    · have hlt : j < us.length := by
        have h : decide ((j : Int) < (us.length : Int)) = true := hlt
        have := of_decide_eq_true h
        omega
      obtain ⟨u, hu⟩ : ∃ u, us[j]? = some u := ⟨_, List.getElem?_eq_getElem hlt⟩
      have hmem := List.mem_of_getElem? hu
      have hrec := ih _ (tt_size hmem) u (IntKind.i64.wrap (d + deepI k j)) cj rfl
      have hstep : visTs c1 (us.map TT.tm) = match (visT cj u.tm).2 with | true => visTs (visT cj u.tm).1 ((us.map TT.tm).drop (j + 1)) | false => ((visT cj u.tm).1, false) := by
        rw [← hA, List.drop_eq_getElem_cons (by simpa using hlt), visTs]
        simp [(List.getElem?_eq_some_iff.1 hu).2]
      obtain ⟨uk, un, uname, ula, ulc, uls, uaa, uac, uus⟩ := u
      obtain ⟨b, hb⟩ : ∃ b, (visT cj (TT.mk uk un uname ula ulc uls uaa uac uus).tm).2 = b := ⟨_, rfl⟩
      obtain ⟨c2, hc2⟩ : ∃ c2, (visT cj (TT.mk uk un uname ula ulc uls uaa uac uus).tm).1 = c2 := ⟨_, rfl⟩
      rw [hb, hc2] at hrec hstep
      refine ⟨{ n := j }, ⟨rfl, hlt, fun w h => ?_⟩, ?_⟩
      · obtain ⟨⟨a, ha, _⟩, _⟩ := h.1.arg hu
        rw [ha]
        rfl
      refine ⟨{ cs := (TT.mk uk un uname ula ulc uls uaa uac uus).cells }, ⟨TT.cells_one (TT.mk uk un uname ula ulc uls uaa uac uus), rfl, fun w h => ?_⟩, ?_⟩
      · obtain ⟨⟨a, ha, hc⟩, _⟩ := h.1.arg hu
        exact ⟨_, by rw [ha]; rfl, hc⟩
      refine .inl ⟨8, [0, 0, 0, 4, 0, 28, 62, 0, 255, 511], fun vs i => match i with
        | 5 => { R := fun r => r = .int .i64 (deepI k j), nf := fun _ => .int .i64 (deepI k j) }
        | _ => {}, by kernel_rfl, rfl, by kernel_rfl, by kernel_rfl, by kernel_rfl, by decide, fun vals => ?_⟩
      refine ⟨fun _ => ⟨deeper_pc k j, fun _ _ => trivial, fun _ h => h⟩, ?_⟩
      intro _
      refine callVC_lend [0] hrec rfl ⟨rfl, trivial⟩ rfl rfl (fun w h => (h.2.1.arg hu).2) (fun _ _ => ⟨rfl, rfl⟩) (fun _ _ => ?_)
      cases b with
      | false =>
        refine ⟨_, rfl, (), trivial, rfl, ?_⟩
        rw [hstep]
        exact ent_ren [(0, .blk 0)] rfl rfl rfl rfl (Nat.le_refl _) ⟨⟨_, rfl, rfl⟩, trivial⟩ ⟨⟨_, rfl, rfl⟩, trivial⟩ ⟨⟨Up.true, fun _ _ => trivial⟩, trivial⟩
      | true =>
        refine ⟨(j + 1, c2), ⟨hlt, hstep.symm⟩, by simp only; omega, ?_⟩
        exact ent_ren [(1, .blk 1), (0, .blk 0)] rfl rfl rfl rfl (Nat.le_of_ble_eq_true rfl) ⟨⟨_, rfl, rfl⟩, ⟨_, rfl, rfl⟩, ⟨_, rfl, rfl⟩, ⟨_, rfl, rfl⟩, ⟨_, rfl, rfl⟩, ⟨_, rfl, oneI (wrapI (by omega) (by omega))⟩, trivial⟩ ⟨⟨_, rfl, rfl⟩, ⟨_, rfl, rfl⟩, trivial⟩ ⟨⟨TTIn.upS _, fun w h => h.2.2.1⟩, trivial⟩
    · have hge : us.length ≤ j := by
        have h : decide ((j : Int) < (us.length : Int)) = false := hge
        have := of_decide_eq_false h
        omega
      have hend : visTs c1 (us.map TT.tm) = (cj, true) := by
        rw [← hA, List.drop_eq_nil_of_le (by simpa using hge), visTs]
      refine ⟨_, rfl, (), trivial, rfl, ?_⟩
      rw [hend]
      exact ent_ren [(0, .blk 0)] rfl rfl rfl rfl (Nat.le_refl _) ⟨⟨_, rfl, rfl⟩, trivial⟩ ⟨⟨_, rfl, rfl⟩, trivial⟩ ⟨⟨Up.true, fun _ _ => trivial⟩, trivial⟩
def nodesV (t : Tm) : Int := if 3001 < (visT 0 t).1 then 3001 else (visT 0 t).1
theorem Nodes_pc (t : TT) : PCall Tryz.prog 95 [t.val] (fun w => TTIn w t) (fun r => r = .int .i64 (nodesV t.tm)) (fun _ _ => True) := by
  have hv := visit_lc t 0 0
  unfold nodesV
  obtain ⟨b, hb⟩ : ∃ b, (visT 0 t.tm).2 = b := ⟨_, rfl⟩
  obtain ⟨c, hc⟩ : ∃ c, (visT 0 t.tm).1 = c := ⟨_, rfl⟩
  rw [hb, hc] at hv
  rw [hc]
  obtain ⟨k, n, s, la, lc, ls, aa, ac, us⟩ := t
  refine pcall_of tabOk 9 [.tmp 2] Tryz.func95 rfl rfl (by kernel_rfl) rfl _ (Nat.le_of_ble_eq_true rfl) (TTIn.upS _) (fun _ => Up.true) ?_
  refine svc_ok tabOk [] _ _ _ ?_
  refine callVC_lend [1] hv rfl ⟨rfl, trivial⟩ rfl rfl (fun w h => h.1) (fun _ _ => ⟨rfl, rfl⟩) (fun _ _ => ?_)
  exact ⟨_, rfl, Told.val rfl⟩
def rightB (p v : Int) (t : Tm) : Bool := decide (0 ≤ p) && (decide (p ≤ 4) && (decide (0 ≤ v) && (decide (v ≤ 1099511627776) && (decide (nodesV t ≤ 3000) && allT p v 0 t))))
theorem Right_pc (t : TT) (p v : Int) : PCall Tryz.prog 55 [t.val, .int .i64 p, .int .i64 v] (fun w => ML w ∧ TTIn w t) (fun r => r = .bool (rightB p v t.tm)) (fun _ _ => True) := by
  have hn := Nodes_pc t
  have ha := all_pc p v 0 t
  have hup : Up fun w => ML w ∧ TTIn w t := ML.up.and (TTIn.upS _)
  have hsp : ∀ (b1 b2 b3 b4 b5 b6 : Bool), decide (0 ≤ p) = b1 → decide (p ≤ 4) = b2 → decide (0 ≤ v) = b3 → decide (v ≤ 1099511627776) = b4 → decide (nodesV t.tm ≤ 3000) = b5 → allT p v 0 t.tm = b6 → rightB p v t.tm = (b1 && (b2 && (b3 && (b4 && (b5 && b6))))) := by
    intro b1 b2 b3 b4 b5 b6 e1 e2 e3 e4 e5 e6
    rw [rightB, e1, e2, e3, e4, e5, e6]
  obtain ⟨b6, e6⟩ : ∃ b, allT p v 0 t.tm = b := ⟨_, rfl⟩
  rw [e6] at ha
  obtain ⟨nv, hnv⟩ : ∃ x, nodesV t.tm = x := ⟨_, rfl⟩
  rw [hnv] at hn hsp
  obtain ⟨R, hR⟩ : ∃ R, rightB p v t.tm = R := ⟨_, rfl⟩
  rw [hR] at hsp ⊢
  obtain ⟨k, n, s, la, lc, ls, aa, ac, us⟩ := t
  refine pcall_of tabOk 32 [.tmp 6] Tryz.func55 rfl rfl (by kernel_rfl) rfl _ (Nat.le_of_ble_eq_true rfl) hup (fun _ => Up.true) ?_
  refine svc_ok tabOk [] _ _ _ ?_
  refine bsplit_i (fun h => ?_) (fun h => ?_)
  rotate_left
  · have e1 : decide (0 ≤ p) = false := h
    exact ⟨_, rfl, Told.val (by rw [hsp _ _ _ _ _ _ e1 rfl rfl rfl rfl e6]; rfl)⟩
  have e1 : decide (0 ≤ p) = true := h
  refine bsplit_i (fun h => ?_) (fun h => ?_)
  rotate_left
  · have e2 : decide (p ≤ 4) = false := h
    exact ⟨_, rfl, Told.val (by rw [hsp _ _ _ _ _ _ e1 e2 rfl rfl rfl e6]; rfl)⟩
  have e2 : decide (p ≤ 4) = true := h
  refine bsplit_i (fun h => ?_) (fun h => ?_)
  rotate_left
  · have e3 : decide (0 ≤ v) = false := h
    exact ⟨_, rfl, Told.val (by rw [hsp _ _ _ _ _ _ e1 e2 e3 rfl rfl e6]; rfl)⟩
  have e3 : decide (0 ≤ v) = true := h
  refine bsplit_i (fun h => ?_) (fun h => ?_)
  rotate_left
  · have e4 : decide (v ≤ 1099511627776) = false := h
    exact ⟨_, rfl, Told.val (by rw [hsp _ _ _ _ _ _ e1 e2 e3 e4 rfl e6]; rfl)⟩
  have e4 : decide (v ≤ 1099511627776) = true := h
  refine callVC_plain hn (fun _ => rfl) (fun w h => h.1.2) ?_
  rintro r rfl
  refine bsplit_i (fun h => ?_) (fun h => ?_)
  rotate_left
  · have e5 : decide (nv ≤ 3000) = false := h
    exact ⟨_, rfl, Told.val (by rw [hsp _ _ _ _ _ _ e1 e2 e3 e4 e5 e6]; rfl)⟩
  have e5 : decide (nv ≤ 3000) = true := h
  refine callVC_plain ha (fun _ => rfl) (fun w h => h.2.1) ?_
  rintro r rfl
  exact ⟨_, rfl, Told.val (by rw [hsp _ _ _ _ _ _ e1 e2 e3 e4 e5 e6]; rfl)⟩
end Go.Proofs.YtmkpiekbpakigaaGreatDoor
end
section
set_option linter.unusedVariables false
set_option linter.unusedSimpArgs false
namespace Go.Proofs.YtmkpiekbpakigaaGreatDoor
open Go.RowKit Go.Proofs.Base Go.Proofs.Sym
mutual
def nearT : Tm → Bool
  | .mk k n _ _ args => (!decide (k = 1) || decide (n ≤ 1099511627776)) && nearTs args
def nearTs : List Tm → Bool
  | [] => true
  | t :: r => nearT t && nearTs r
end
/-- The first place that is not near. -/
def idxFar : List Tm → Nat → Int
  | [], _ => -1
  | t :: r, i => if nearT t then idxFar r (i + 1) else (i : Int)
theorem idxFar_all : ∀ (ts : List Tm) (i : Nat), (!decide (0 ≤ idxFar ts i)) = nearTs ts
  | [], i => by simp [idxFar, nearTs]
  | t :: r, i => by
    unfold idxFar nearTs
    cases nearT t with
    | true => simpa using idxFar_all r (i + 1)
    | false => simp
theorem near1_pc (u : TT) (hn : PCall Tryz.prog 93 [u.val] (fun w => TTIn w u) (fun r => r = .bool (nearT u.tm)) (fun _ _ => True)) :
    PCall Tryz.prog 130 [u.val] (fun w => TTIn w u) (fun r => r = .bool (!nearT u.tm)) (fun _ _ => True) := by
  obtain ⟨b, hb⟩ : ∃ b, nearT u.tm = b := ⟨_, rfl⟩
  rw [hb] at hn ⊢
  obtain ⟨k, n, s, la, lc, ls, aa, ac, us⟩ := u
  refine pcall_of tabOk 6 [.tmp 2] Tryz.func130 rfl rfl (by kernel_rfl) rfl _ (Nat.le_of_ble_eq_true rfl) (TTIn.upS _) (fun _ => Up.true) ?_
  refine svc_ok tabOk [] _ _ _ ?_
  refine callVC_plain hn (fun _ => rfl) (fun w h => h.1) ?_
  rintro r rfl
  exact ⟨_, rfl, Told.val rfl⟩
theorem TTs.upS (aa : Option Addr) (us : List TT) : Up fun w => TTs w aa 0 us := fun w w' h hs => TTs.up h aa 0 us hs
theorem nearIdx_pc (aa : Option Addr) (ac : Nat) (us : List TT) (hl : us.length ≤ 9223372036854775807)
    (hn : ∀ u ∈ us, PCall Tryz.prog 93 [u.val] (fun w => TTIn w u) (fun r => r = .bool (nearT u.tm)) (fun _ _ => True)) :
    PCall Tryz.prog 123 [.slice aa us.length ac, .func (.func 130) #[] #[]] (fun w => TTs w aa 0 us) (fun r => r = .int .i64 (idxFar (us.map TT.tm) 0)) (fun _ _ => True) := by
  refine pcall_of tabOk 19 [.tmp 4] Tryz.func123 rfl rfl (by kernel_rfl) rfl _ (Nat.le_of_ble_eq_true rfl) (TTs.upS _ _) (fun _ => Up.true) ?_
  refine svc_ok tabOk [] _ _ _ ?_
  refine ⟨⟨Nat, fun j => j ≤ us.length ∧ idxFar ((us.map TT.tm).drop j) j = idxFar (us.map TT.tm) 0,
    fun j => { s := [(0, .one (.v (.slice aa us.length ac))), (1, .one (.v (.func (.func 130) #[] #[]))), (7, .one (.v (.int .i64 (us.length : Int)))), (8, .one (.v (.int .i64 (j : Int))))], m := [], k := 0, f := [fun w => TTs w aa 0 us] },
    fun j => us.length - j, ⟨0, ⟨Nat.zero_le _, rfl⟩, ?_⟩, ?_⟩⟩
  · exact ent_ren [] rfl rfl rfl rfl (Nat.zero_le _) ⟨⟨_, rfl, rfl⟩, ⟨_, rfl, rfl⟩, ⟨_, rfl, rfl⟩, ⟨_, rfl, rfl⟩, trivial⟩ trivial ⟨⟨TTs.upS _ _, fun w h => h.1⟩, trivial⟩
  rintro j ⟨hj, hpre⟩
  refine bsplit_i (fun hlt => ?_) (fun hge => ?_)
  · have hlt : j < us.length := by
      have h : decide ((j : Int) < (us.length : Int)) = true := hlt
      have := of_decide_eq_true h
      omega
    obtain ⟨u, hu⟩ : ∃ u, us[j]? = some u := ⟨_, List.getElem?_eq_getElem hlt⟩
    have hstep : idxFar (us.map TT.tm) 0 = if nearT u.tm then idxFar ((us.map TT.tm).drop (j + 1)) (j + 1) else (j : Int) := by
      rw [← hpre, List.drop_eq_getElem_cons (by simpa using hlt), idxFar]
      simp [(List.getElem?_eq_some_iff.1 hu).2]
    have hc := near1_pc u (hn u (List.mem_of_getElem? hu))
    have hg : ∀ {w}, TTs w aa 0 us → (∃ a, aa = some a ∧ ∀ l v, u.cells[l]? = some v → w.cell? ((a.add (j * 5)).add l) = some v) ∧ TTIn w u := fun h => by
      have := h.get hu
      rwa [Nat.zero_add] at this
    obtain ⟨b, hb⟩ : ∃ b, nearT u.tm = b := ⟨_, rfl⟩
    rw [hb] at hc hstep
    obtain ⟨uk, un, uname, ula, ulc, uls, uaa, uac, uus⟩ := u
    refine ⟨{ n := j }, ⟨rfl, hlt, fun w h => ?_⟩, ?_⟩
    · obtain ⟨⟨a, ha, _⟩, _⟩ := hg h.1
      rw [ha]; rfl
    refine ⟨{ cs := (TT.mk uk un uname ula ulc uls uaa uac uus).cells }, ⟨TT.cells_one (TT.mk uk un uname ula ulc uls uaa uac uus), rfl, fun w h => ?_⟩, ?_⟩
    · obtain ⟨⟨a, ha, hc⟩, _⟩ := hg h.1
      exact ⟨_, by rw [ha]; rfl, hc⟩
    refine callVC_plain hc (fun _ => rfl) (fun w h => (hg h.1).2) ?_
    rintro r rfl
    cases b with
    | false => exact ⟨_, rfl, Told.val (by rw [hstep]; rfl)⟩
    | true =>
      refine ⟨j + 1, ⟨hlt, hstep.symm⟩, by simp only; omega, ?_⟩
      exact ent_ren [] rfl rfl rfl rfl (Nat.zero_le _) ⟨⟨_, rfl, rfl⟩, ⟨_, rfl, rfl⟩, ⟨_, rfl, rfl⟩, ⟨_, rfl, oneI (wrapI (by omega) (by omega))⟩, trivial⟩ trivial ⟨⟨TTs.upS _ _, fun w h => h.2.1⟩, trivial⟩
  · have hge : us.length ≤ j := by
      have h : decide ((j : Int) < (us.length : Int)) = false := hge
      have := of_decide_eq_false h
      omega
    exact ⟨_, rfl, Told.val (by rw [← hpre, List.drop_eq_nil_of_le (by simpa using hge)]; rfl)⟩
theorem nearCon_pc (aa : Option Addr) (ac : Nat) (us : List TT) (hl : us.length ≤ 9223372036854775807)
    (hn : ∀ u ∈ us, PCall Tryz.prog 93 [u.val] (fun w => TTIn w u) (fun r => r = .bool (nearT u.tm)) (fun _ _ => True)) :
    PCall Tryz.prog 80 [.slice aa us.length ac, .func (.func 130) #[] #[]] (fun w => TTs w aa 0 us) (fun r => r = .bool (decide (0 ≤ idxFar (us.map TT.tm) 0))) (fun _ _ => True) := by
  refine pcall_of tabOk 9 [.tmp 4] Tryz.func80 rfl rfl (by kernel_rfl) rfl _ (Nat.le_of_ble_eq_true rfl) (TTs.upS _ _) (fun _ => Up.true) ?_
  refine svc_ok tabOk [] _ _ _ ?_
  refine callVC_plain (nearIdx_pc aa ac us hl hn) (fun _ => rfl) (fun w h => h.1) ?_
  rintro r rfl
  exact ⟨_, rfl, Told.val rfl⟩
theorem near_pc (t : TT) : PCall Tryz.prog 93 [t.val] (fun w => TTIn w t) (fun r => r = .bool (nearT t.tm)) (fun _ _ => True) := by
  induction hsz : SizeOf.sizeOf t using Nat.strongRecOn generalizing t with
  | _ z ih =>
  obtain ⟨k, n, s, la, lc, ls, aa, ac, us⟩ := t
  subst hsz
  by_cases hal : us.length ≤ 9223372036854775807
  rotate_left
  · refine ⟨enters Tryz.func93 (by kernel_rfl) (by kernel_rfl), fun _ => Up.true, fun w H hH hp => ?_⟩
    have := hp.node
    have h1 := this.hac
    have h2 := this.ham
    simp only [maxLen] at h2
    omega
  have hc := nearCon_pc aa ac us hal (fun u hu => ih _ (tt_size hu) u rfl)
  have hspec : nearT (TT.mk k n s la lc ls aa ac us).tm = ((!decide (k = 1) || decide (n ≤ 1099511627776)) && !decide (0 ≤ idxFar (us.map TT.tm) 0)) := by
    rw [tt_tm, nearT, idxFar_all]
  rw [hspec]
  obtain ⟨b, hb⟩ : ∃ b, decide (0 ≤ idxFar (us.map TT.tm) 0) = b := ⟨_, rfl⟩
  rw [hb] at hc ⊢
  have htts : ∀ {w}, TTIn w (TT.mk k n s la lc ls aa ac us) → TTs w aa 0 us := fun h => by
    unfold TTIn at h
    exact h.2
  refine pcall_of tabOk 19 [.tmp 2] Tryz.func93 rfl rfl (by kernel_rfl) rfl _ (Nat.le_of_ble_eq_true rfl) (TTIn.upS _) (fun _ => Up.true) ?_
  refine svc_ok tabOk [] _ _ _ ?_
  refine bsplit_i (fun h => ?_) (fun h => ?_)
  · have e1 : (!decide (k = 1)) = true := h
    refine callVC_plain hc (fun _ => rfl) (fun w h => htts h.1) ?_
    rintro r rfl
    exact ⟨_, rfl, Told.val (by rw [e1]; rfl)⟩
  have e1 : (!decide (k = 1)) = false := h
  refine bsplit_i (fun h => ?_) (fun h => ?_)
  · have e2 : decide (n ≤ 1099511627776) = true := h
    refine callVC_plain hc (fun _ => rfl) (fun w h => htts h.1) ?_
    rintro r rfl
    exact ⟨_, rfl, Told.val (by rw [e1, e2]; rfl)⟩
  · have e2 : decide (n ≤ 1099511627776) = false := h
    exact ⟨_, rfl, Told.val (by rw [e1, e2]; rfl)⟩
/-- Has a term bytes? -/
def codeB (t : Tm) : Bool := rightB 4 1099511627776 t && nearT t
theorem right68_pc (t : TT) : PCall Tryz.prog 46 [t.val] (fun w => ML w ∧ TTIn w t) (fun r => r = .bool (codeB t.tm)) (fun _ _ => True) := by
  have h1 := Right_pc t 4 1099511627776
  have h2 := near_pc t
  have hsp : codeB t.tm = (rightB 4 1099511627776 t.tm && nearT t.tm) := rfl
  obtain ⟨b1, e1⟩ : ∃ b, rightB 4 1099511627776 t.tm = b := ⟨_, rfl⟩
  obtain ⟨b2, e2⟩ : ∃ b, nearT t.tm = b := ⟨_, rfl⟩
  rw [e1] at h1 hsp
  rw [e2] at h2 hsp
  rw [hsp]
  have hup : Up fun w => ML w ∧ TTIn w t := ML.up.and (TTIn.upS _)
  obtain ⟨k, n, s, la, lc, ls, aa, ac, us⟩ := t
  refine pcall_of tabOk 9 [.tmp 2] Tryz.func46 rfl rfl (by kernel_rfl) rfl _ (Nat.le_of_ble_eq_true rfl) hup (fun _ => Up.true) ?_
  refine svc_ok tabOk [] _ _ _ ?_
  refine callVC_plain h1 (fun _ => rfl) (fun w h => h.1) ?_
  rintro r rfl
  cases b1 with
  | true =>
    refine callVC_plain h2 (fun _ => rfl) (fun w h => h.2.1.2) ?_
    rintro r rfl
    exact ⟨_, rfl, Told.val rfl⟩
  | false => exact ⟨_, rfl, Told.val rfl⟩
end Go.Proofs.YtmkpiekbpakigaaGreatDoor
end
section
set_option linter.unusedVariables false
set_option linter.unusedSimpArgs false
namespace Go.Proofs.YtmkpiekbpakigaaGreatDoor
open Go.RowKit Go.Proofs.Base Go.Proofs.Sym
theorem eq164_pc (A : Option Addr) (n c : Nat) : PCall Tryz.prog 141 [.slice A n c, .slice none 0 0] (fun _ => True) (fun r => r = .bool (decide ((n : Int) = 0))) (fun _ _ => True) := by
  refine pcall_of tabOk 26 [.tmp 4] Tryz.func141 rfl rfl (by kernel_rfl) rfl _ (Nat.le_of_ble_eq_true rfl) Up.true (fun _ => Up.true) ?_
  refine svc_ok tabOk [] _ _ _ ?_
  refine bsplit_i (fun h => ?_) (fun h => ?_)
  · have h : (!decide ((n : Int) = 0)) = true := h
    exact ⟨_, rfl, Told.val (by simp at h; simp [h])⟩
  have h : (!decide ((n : Int) = 0)) = false := h
  have h0 : decide ((n : Int) = 0) = true := by simpa using h
  have hn : (n : Int) = 0 := of_decide_eq_true h0
  refine ⟨⟨Unit, fun _ => True, fun _ => { s := [(12, .one (.v (.int .i64 (n : Int)))), (13, .one (.v (.int .i64 0)))], m := [], k := 0, f := [] }, fun _ => 0, ⟨(), trivial, ?_⟩, ?_⟩⟩
  · exact ent_ren [] rfl rfl rfl rfl (Nat.zero_le _) ⟨⟨_, rfl, rfl⟩, ⟨_, rfl, rfl⟩, trivial⟩ trivial trivial
  rintro _ _
  refine bsplit_i (fun hlt => ?_) (fun hge => ?_)
  · have hlt : decide ((0 : Int) < (n : Int)) = true := hlt
    rw [hn] at hlt
    cases hlt
  · exact ⟨_, rfl, Told.val (by rw [h0])⟩
theorem eq165_pc (A : Option Addr) (n c : Nat) : PCall Tryz.prog 142 [.slice A n c, .slice none 0 0, .func (.func 100) #[] #[]] (fun _ => True) (fun r => r = .bool (decide ((n : Int) = 0))) (fun _ _ => True) := by
  refine pcall_of tabOk 32 [.tmp 6] Tryz.func142 rfl rfl (by kernel_rfl) rfl _ (Nat.le_of_ble_eq_true rfl) Up.true (fun _ => Up.true) ?_
  refine svc_ok tabOk [] _ _ _ ?_
  refine bsplit_i (fun h => ?_) (fun h => ?_)
  · have h : (!decide ((n : Int) = 0)) = true := h
    exact ⟨_, rfl, Told.val (by simp at h; simp [h])⟩
  have h : (!decide ((n : Int) = 0)) = false := h
  have h0 : decide ((n : Int) = 0) = true := by simpa using h
  have hn : (n : Int) = 0 := of_decide_eq_true h0
  refine ⟨⟨Unit, fun _ => True, fun _ => { s := [(16, .one (.v (.int .i64 (n : Int)))), (17, .one (.v (.int .i64 0)))], m := [], k := 0, f := [] }, fun _ => 0, ⟨(), trivial, ?_⟩, ?_⟩⟩
  · exact ent_ren [] rfl rfl rfl rfl (Nat.zero_le _) ⟨⟨_, rfl, rfl⟩, ⟨_, rfl, rfl⟩, trivial⟩ trivial trivial
  rintro _ _
  refine bsplit_i (fun hlt => ?_) (fun hge => ?_)
  · have hlt : decide ((0 : Int) < (n : Int)) = true := hlt
    rw [hn] at hlt
    cases hlt
  · exact ⟨_, rfl, Told.val (by rw [h0])⟩
/-- Is a term noughts? -/
def emptyT : Tm → Bool
  | .mk k n s ls us => decide (k = 0) && (decide (n = 0) && (noText s && (decide ((ls.length : Int) = 0) && decide ((us.length : Int) = 0))))
def zeroT : TT := .mk 0 0 ⟨#[]⟩ none 0 [] none 0 []
theorem same0_pc (t : TT) : PCall Tryz.prog 100 [t.val, zeroT.val] (fun _ => True) (fun r => r = .bool (emptyT t.tm)) (fun _ _ => True) := by
  obtain ⟨k, n, s, la, lc, ls, aa, ac, us⟩ := t
  have h4 := eq164_pc la ls.length lc
  have h5 := eq165_pc aa us.length ac
  have hsp : emptyT (TT.mk k n s la lc ls aa ac us).tm = (decide (k = 0) && (decide (n = 0) && (noText s && (decide ((ls.length : Int) = 0) && decide ((us.length : Int) = 0))))) := by
    rw [tt_tm, emptyT, List.length_map]
  rw [hsp]
  obtain ⟨b4, e4⟩ : ∃ b, decide ((ls.length : Int) = 0) = b := ⟨_, rfl⟩
  obtain ⟨b5, e5⟩ : ∃ b, decide ((us.length : Int) = 0) = b := ⟨_, rfl⟩
  rw [e4] at h4 ⊢
  rw [e5] at h5 ⊢
  refine pcall_of tabOk 38 [.tmp 4] Tryz.func100 rfl rfl (by kernel_rfl) rfl _ (Nat.le_of_ble_eq_true rfl) Up.true (fun _ => Up.true) ?_
  refine svc_ok tabOk [] _ _ _ ?_
  refine bsplit_i (fun h => ?_) (fun h => ?_)
  rotate_left
  · have e1 : decide (k = 0) = false := h
    exact ⟨_, rfl, Told.val (by rw [e1]; rfl)⟩
  have e1 : decide (k = 0) = true := h
  refine bsplit_i (fun h => ?_) (fun h => ?_)
  rotate_left
  · have e2 : decide (n = 0) = false := h
    exact ⟨_, rfl, Told.val (by rw [e1, e2]; rfl)⟩
  have e2 : decide (n = 0) = true := h
  refine bsplit_i (fun h => ?_) (fun h => ?_)
  rotate_left
  · have e3 : noText s = false := h
    exact ⟨_, rfl, Told.val (by rw [e1, e2, e3]; rfl)⟩
  have e3 : noText s = true := h
  refine callVC_plain h4 (fun _ => rfl) (fun _ _ => trivial) ?_
  rintro r rfl
  cases b4 with
  | false => exact ⟨_, rfl, Told.val (by rw [e1, e2, e3]; rfl)⟩
  | true =>
    refine callVC_plain h5 (fun _ => rfl) (fun _ _ => trivial) ?_
    rintro r rfl
    exact ⟨_, rfl, Told.val (by rw [e1, e2, e3]; rfl)⟩
theorem empty_pc (t : TT) : PCall Tryz.prog 58 [t.val] (fun _ => True) (fun r => r = .bool (emptyT t.tm)) (fun _ _ => True) := by
  have h := same0_pc t
  obtain ⟨b, hb⟩ : ∃ b, emptyT t.tm = b := ⟨_, rfl⟩
  rw [hb] at h ⊢
  obtain ⟨k, n, s, la, lc, ls, aa, ac, us⟩ := t
  refine pcall_of tabOk 6 [.tmp 2] Tryz.func58 rfl rfl (by kernel_rfl) rfl _ (Nat.le_of_ble_eq_true rfl) Up.true (fun _ => Up.true) ?_
  refine svc_ok tabOk [] _ _ _ ?_
  refine callVC_plain h (fun _ => rfl) (fun _ _ => trivial) ?_
  rintro r rfl
  exact ⟨_, rfl, Told.val rfl⟩
end Go.Proofs.YtmkpiekbpakigaaGreatDoor
end
section
set_option linter.unusedVariables false
set_option linter.unusedSimpArgs false
namespace Go.Proofs.YtmkpiekbpakigaaGreatDoor
open Go.RowKit Go.Proofs.Base Go.Proofs.Sym
def bc (l : List Nat) : List Value := l.map fun (b : Nat) => Value.int .u8 (b : Int)
/-- The digits of a number, the first c of six places. -/
def digs (n : Nat) : Nat → List Nat
  | 0 => []
  | c + 1 => digs n c ++ (if 0 < n / 256 ^ (5 - c) then [n / 256 ^ (5 - c) % 256] else [])
def numB (n : Nat) : List Nat := (digs n 6).length :: digs n 6
theorem digs_len (n : Nat) : ∀ c, (digs n c).length ≤ c
  | 0 => Nat.le_refl _
  | c + 1 => by
    have := digs_len n c
    rw [digs, List.length_append]
    split <;> simp <;> omega
theorem shr_nat (n c : Nat) (hc : c ≤ 5) : ((n : Int).fdiv (2 ^ (min (40 - 8 * c) IntKind.i64.bits))) = ((n / 256 ^ (5 - c) : Nat) : Int) := by
  have h1 : min (40 - 8 * c) IntKind.i64.bits = 8 * (5 - c) := by
    have : IntKind.i64.bits = 64 := rfl
    rw [this]
    omega
  rw [h1]
  have h2 : ((2 : Int) ^ (8 * (5 - c))) = ((256 ^ (5 - c) : Nat) : Int) := by
    rw [Int.pow_mul, Int.natCast_pow]
    rfl
  rw [h2]
  rw [Int.fdiv_eq_ediv_of_nonneg _ (Int.natCast_nonneg _)]
  rfl
theorem wrapU (n : Nat) : IntKind.u8.wrap (n : Int) = ((n % 256 : Nat) : Int) := by
  have : IntKind.u8.wrap (n : Int) = (n : Int) % 256 := by
    simp [IntKind.wrap, IntKind.signed, IntKind.bits]
  rw [this]
  rfl
theorem num_shift {c : Nat} (h : c ≤ 5) : SV.one (SA.v (.int .i64 (IntKind.i64.wrap ((40 - 8 * (c : Int)) - 8)))) = SV.one (SA.v (.int .i64 (40 - 8 * ((c + 1 : Nat) : Int)))) := by
  rw [IntWalk.i64_in _ ⟨by omega, by omega⟩]
  congr 3
  omega
theorem num_head {xs : List Value} {n0 : Nat} (hx : xs.length = n0) (a : Nat) (l : List Nat) (r : List Value) : ((xs ++ bc (a :: l)) ++ r)[n0 * 1]? = some (.int .u8 (a : Int)) := by
  rw [List.append_assoc, List.getElem?_append_right (by omega), Nat.mul_one, hx, Nat.sub_self]
  rfl
theorem num_put {xs : List Value} {n0 : Nat} (hx : xs.length = n0) (a : Nat) (ha : a ≤ 5) (l : List Nat) (d : Nat) (v : Int) (hv : v = (d : Int)) :
    List.take (n0 * 1) ((xs ++ bc (a :: l)) ++ [.int .u8 (IntKind.u8.wrap v)]) ++ ([.int .u8 (IntKind.u8.wrap ((a : Int) + 1))] ++ List.drop (n0 * 1 + 1) ((xs ++ bc (a :: l)) ++ [.int .u8 (IntKind.u8.wrap v)])) = xs ++ bc ((a + 1) :: (l ++ [d % 256])) := by
  have h1 : IntKind.u8.wrap ((a : Int) + 1) = ((a + 1 : Nat) : Int) := by
    have h := wrapU (a + 1)
    rw [Nat.mod_eq_of_lt (by omega)] at h
    exact h
  rw [hv, wrapU, h1, Nat.mul_one, ← hx]
  have e1 : (xs ++ bc (a :: l)) ++ [Value.int .u8 ((d % 256 : Nat) : Int)] = xs ++ (Value.int .u8 (a : Int) :: (bc l ++ [Value.int .u8 ((d % 256 : Nat) : Int)])) := by simp [bc]
  rw [e1, List.take_left, ← List.drop_drop, List.drop_left]
  simp [bc]
def numRes (n0 : Nat) (xs : List Value) (n : Nat) : LRes := { v := .one (.row 1), m := [(1, .own 5 1 (n0 + (numB n).length) (xs ++ bc (numB n)))], k := 2 }
def numSt (n0 : Nat) (xs : List Value) (n c : Nat) : St := { s := [(0, .one (.row 1)), (1, .one (.v (.int .i64 (n : Int)))), (5, .one (.v (.int .i64 (n0 : Int)))), (6, .one (.v (.int .i64 (40 - 8 * (c : Int)))))], m := [(1, .own 5 1 (n0 + 1 + (digs n c).length) (xs ++ bc ((digs n c).length :: digs n c)))], k := 2, f := [fun _ => True], b := 1 }
set_option maxHeartbeats 1000000 in
theorem num_lc (n0 : Nat) (xs : List Value) (n : Nat) (hx : xs.length = n0) (h0 : n0 ≤ 1099511627776) (hn : n ≤ 1099511627776) :
    LCall Tryz.prog 44 [.one (.row 0), .one (.v (.int .i64 (n : Int)))] [(0, .own 5 1 n0 xs)] 1 (fun _ => True) (fun _ : Unit => True) (fun _ => numRes n0 xs n) := by
  refine lcall_of tabOk 34 [.tmp 4] Tryz.func44 rfl rfl (by kernel_rfl) rfl _ (Nat.le_of_ble_eq_true rfl) Up.true ?_
  refine svc_ok tabOk [] _ _ _ ?_
  refine ⟨{}, ⟨trivial, Nat.one_pos, .inr rfl, ?_, ?_⟩, ?_⟩
  · show n0 + 1 ≤ maxLen
    simp only [maxLen]; omega
  · show (n0 + 1) * 1 ≤ _
    omega
  refine ⟨⟨Nat, fun c => c ≤ 6, numSt n0 xs n, fun c => 6 - c, ⟨0, Nat.zero_le _, ?_⟩, ?_⟩⟩
  · refine ent_ren [(1, .own 2), (0, .blk 0)] rfl rfl rfl rfl (Nat.le_of_ble_eq_true rfl) ?_ ?_ ?_
    · exact ⟨⟨_, rfl, rfl⟩, ⟨_, rfl, rfl⟩, ⟨_, rfl, rfl⟩, ⟨_, rfl, rfl⟩, trivial⟩
    · exact ⟨⟨_, _, rfl, rfl, rfl⟩, trivial⟩
    · exact ⟨⟨Up.true, fun _ _ => trivial⟩, trivial⟩
  intro c hc
  refine bsplit_i (fun hge => ?_) (fun hlt => ?_)
  · have hc5 : c ≤ 5 := by
      have h : decide ((0 : Int) ≤ 40 - 8 * (c : Int)) = true := hge
      have := of_decide_eq_true h
      omega
    refine ⟨{ n := 40 - 8 * c }, ?_, ?_⟩
    · show (40 - 8 * (c : Int)) = ((40 - 8 * c : Nat) : Int)
      omega
    have hsh := shr_nat n c hc5
    have hlen := digs_len n c
    have hnext : ∀ d, digs n (c + 1) = digs n c ++ d → True := fun _ _ => trivial
    refine bsplit_i (fun hp => ?_) (fun hp => ?_)
    · have hp : 0 < n / 256 ^ (5 - c) := by
        have h : decide ((0 : Int) < (n : Int).fdiv (2 ^ (min (40 - 8 * c) IntKind.i64.bits))) = true := hp
        rw [hsh] at h
        have := of_decide_eq_true h
        omega
      refine ⟨{ n := 40 - 8 * c }, ?_, ?_⟩
      · show (40 - 8 * (c : Int)) = ((40 - 8 * c : Nat) : Int)
        omega
      refine ⟨{}, ⟨trivial, Nat.one_pos, .inr rfl, ?_, ?_⟩, ?_⟩
      · show n0 + 1 + (digs n c).length + 1 ≤ maxLen
        simp only [maxLen]; omega
      · show (n0 + 1 + (digs n c).length + 1) * 1 ≤ _
        omega
      refine ⟨{ n := n0 }, ⟨rfl, ?_, rfl⟩, ?_⟩
      · show n0 < n0 + 1 + (digs n c).length + 1
        omega
      refine ⟨{ v := .int .u8 ((digs n c).length : Int) }, ?_, ?_⟩
      · exact num_head hx _ _ _
      refine ⟨{ n := n0 }, ⟨rfl, ?_, rfl⟩, ?_⟩
      · show n0 < n0 + 1 + (digs n c).length + 1
        omega
      refine ⟨⟨rfl, Nat.one_pos, ?_, ?_⟩, ?_⟩
      · show n0 * 1 + 1 ≤ List.length (_ ++ [_])
        simp [bc, hx]
      · intro u hu
        rw [List.mem_singleton.1 hu]
        rfl
      refine ⟨c + 1, by omega, by simp only; omega, ?_⟩
      refine ent_ren [(1, .own 3), (0, .blk 0)] rfl rfl rfl rfl (Nat.le_of_ble_eq_true rfl) ?_ ?_ ?_
      · exact ⟨⟨_, rfl, rfl⟩, ⟨_, rfl, rfl⟩, ⟨_, rfl, rfl⟩, ⟨_, rfl, num_shift hc5⟩, trivial⟩
      · refine ⟨⟨_, _, rfl, ?_, ?_⟩, trivial⟩
        · show n0 + 1 + (digs n c).length + 1 = _
          rw [digs, if_pos hp, List.length_append]
          rfl
        · have e1 : digs n (c + 1) = digs n c ++ [n / 256 ^ (5 - c) % 256] := by rw [digs, if_pos hp]
          rw [e1, List.length_append]
          exact num_put hx _ (by omega) _ _ _ hsh
      · exact ⟨⟨Up.true, fun _ _ => trivial⟩, trivial⟩
    · have hp : ¬ 0 < n / 256 ^ (5 - c) := by
        have h : decide ((0 : Int) < (n : Int).fdiv (2 ^ (min (40 - 8 * c) IntKind.i64.bits))) = false := hp
        rw [hsh] at h
        have := of_decide_eq_false h
        omega
      refine ⟨c + 1, by omega, by simp only; omega, ?_⟩
      refine ent_ren [(1, .own 1), (0, .blk 0)] rfl rfl rfl rfl (Nat.le_of_ble_eq_true rfl) ?_ ?_ ?_
      · exact ⟨⟨_, rfl, rfl⟩, ⟨_, rfl, rfl⟩, ⟨_, rfl, rfl⟩, ⟨_, rfl, num_shift hc5⟩, trivial⟩
      · have hd : digs n (c + 1) = digs n c := by rw [digs, if_neg hp, List.append_nil]
        exact ⟨⟨_, _, rfl, by rw [hd], by rw [hd]⟩, trivial⟩
      · exact ⟨⟨Up.true, fun _ _ => trivial⟩, trivial⟩
  · have hc6 : c = 6 := by
      have h : decide ((0 : Int) ≤ 40 - 8 * (c : Int)) = false := hlt
      have := of_decide_eq_false h
      omega
    subst hc6
    refine ⟨_, rfl, (), trivial, rfl, ?_⟩
    refine ent_ren [(1, .own 1), (0, .blk 0)] rfl rfl rfl rfl (Nat.le_of_ble_eq_true rfl) ?_ ?_ ?_
    · exact ⟨⟨_, rfl, rfl⟩, trivial⟩
    · exact ⟨⟨_, _, rfl, by simp only [numB, List.length_cons]; omega, rfl⟩, trivial⟩
    · exact ⟨⟨Up.true, fun _ _ => trivial⟩, trivial⟩
end Go.Proofs.YtmkpiekbpakigaaGreatDoor
end
section
set_option linter.unusedVariables false
set_option linter.unusedSimpArgs false
namespace Go.Proofs.YtmkpiekbpakigaaGreatDoor
open Go.RowKit Go.Proofs.Base Go.Proofs.Sym Go.Lib
def textB (s : ByteArray) : List Value := bc (numB s.size) ++ strCells s
theorem numB_len (n : Nat) : (numB n).length ≤ 7 := by
  have := digs_len n 6
  simp only [numB, List.length_cons]
  omega
theorem textB_len (s : ByteArray) : (textB s).length = (numB s.size).length + s.size := by
  simp [textB, bc, strCells_length]
def textRes (n0 : Nat) (xs : List Value) (s : ByteArray) : LRes := { v := .one (.row 1), m := [(1, .own 5 1 (n0 + (textB s).length) (xs ++ textB s))], k := 2 }
theorem text_lc (n0 : Nat) (xs : List Value) (s : ByteArray) (hx : xs.length = n0) (h0 : n0 ≤ 1099511627776) (hn : s.size ≤ 1099511627776) :
    LCall Tryz.prog 51 [.one (.row 0), .one (.v (.string s))] [(0, .own 5 1 n0 xs)] 1 (fun _ => True) (fun _ : Unit => True) (fun _ => textRes n0 xs s) := by
  refine lcall_of tabOk 11 [.tmp 4] Tryz.func51 rfl rfl (by kernel_rfl) rfl _ (Nat.le_of_ble_eq_true rfl) Up.true ?_
  refine svc_ok tabOk [] _ _ _ ?_
  refine callVC_lend [0] (num_lc n0 xs s.size hx h0 hn) rfl ⟨rfl, trivial⟩ rfl rfl (fun _ _ => trivial) (fun _ _ => ⟨rfl, rfl⟩) (fun _ _ => ?_)
  have hl := numB_len s.size
  refine ⟨{}, ⟨.inr rfl, ?_⟩, ?_⟩
  · show n0 + (numB s.size).length + s.size ≤ _
    omega
  refine ⟨_, rfl, (), trivial, rfl, ?_⟩
  refine ent_ren [(1, .own 2), (0, .blk 0)] rfl rfl rfl rfl (Nat.le_of_ble_eq_true rfl) ?_ ?_ ?_
  · exact ⟨⟨_, rfl, rfl⟩, trivial⟩
  · exact ⟨⟨_, _, rfl, by rw [textB_len, ← Nat.add_assoc], by simp only [textB, ← List.append_assoc]⟩, trivial⟩
  · exact ⟨⟨Up.true, fun _ _ => trivial⟩, trivial⟩
end Go.Proofs.YtmkpiekbpakigaaGreatDoor
end
section
set_option linter.unusedVariables false
set_option linter.unusedSimpArgs false
namespace Go.Proofs.YtmkpiekbpakigaaGreatDoor
open Go.RowKit Go.Proofs.Base Go.Proofs.Sym
def tornV : Value := .iface 133 (.agg #[])
def needRes : Bool → LRes
  | true => { v := .tup [], m := [], k := 0 }
  | false => { m := [], k := 0, ch := some [{ v := tornV, recovered := false }] }
theorem need_lc (ok : Bool) : LCall Tryz.prog 70 [.one (.v (.bool ok))] [] 0 (fun _ => True) (fun _ : Unit => True) (fun _ => needRes ok) := by
  refine lcall_of tabOk 6 [] Tryz.func70 rfl rfl (by kernel_rfl) rfl _ (Nat.le_of_ble_eq_true rfl) Up.true ?_
  refine svc_ok tabOk [] _ _ _ ?_
  refine bsplit_i (fun h => ?_) (fun h => ?_)
  · have h : (!ok) = true := h
    obtain rfl : ok = false := by simpa using h
    refine ⟨(), trivial, rfl, ?_⟩
    refine ent_ren [] rfl rfl rfl rfl (Nat.zero_le _) ⟨⟨_, rfl, rfl⟩, trivial⟩ trivial ⟨⟨Up.true, fun _ _ => trivial⟩, trivial⟩
  · have h : (!ok) = false := h
    obtain rfl : ok = true := by simpa using h
    refine ⟨_, rfl, (), trivial, rfl, ?_⟩
    refine ent_ren [] rfl rfl rfl rfl (Nat.zero_le _) ⟨⟨_, rfl, rfl⟩, trivial⟩ trivial ⟨⟨Up.true, fun _ _ => trivial⟩, trivial⟩
theorem valued_pc (k : Int) : PCall Tryz.prog 52 [.int .i64 k] (fun _ => True) (fun r => r = .bool (decide (k = 2) || decide (k = 3))) (fun _ _ => True) := by
  refine pcall_of tabOk 9 [.tmp 2] Tryz.func52 rfl rfl (by kernel_rfl) rfl _ (Nat.le_of_ble_eq_true rfl) Up.true (fun _ => Up.true) ?_
  refine svc_ok tabOk [] _ _ _ ?_
  refine bsplit_i (fun h => ?_) (fun h => ?_)
  · have h : decide (k = 2) = true := h
    exact ⟨_, rfl, Told.val (by rw [h]; rfl)⟩
  · have h : decide (k = 2) = false := h
    exact ⟨_, rfl, Told.val (by rw [h]; rfl)⟩
/-- A slice of these bytes. -/
structure BtIn (w : World) (A : Option Addr) (c : Nat) (l : List Nat) : Prop where
  cells : SlAt w A (bc l)
  nil : A = none → l.length = 0 ∧ c = 0
  le : l.length ≤ c
  max : c ≤ maxLen
theorem BtIn.up (A : Option Addr) (c : Nat) (l : List Nat) : Up fun w => BtIn w A c l := fun w w' h hb => ⟨SlAt.up _ _ _ _ h hb.cells, hb.nil, hb.le, hb.max⟩
theorem bc_get {l : List Nat} {j x : Nat} (h : l[j]? = some x) : (bc l)[j]? = some (.int .u8 (x : Int)) := by simp [bc, h]
set_option maxHeartbeats 1000000 in
theorem sameBytes_pc (A B : Option Addr) (c d : Nat) (l r : List Nat) (hl : l.length ≤ 9223372036854775807) : PCall Tryz.prog 15 [.slice A l.length c, .slice B r.length d] (fun w => BtIn w A c l ∧ BtIn w B d r) (fun u => u = .bool (decide (l = r))) (fun _ _ => True) := by
  refine pcall_of tabOk 26 [.tmp 4] Tryz.func15 rfl rfl (by kernel_rfl) rfl _ (Nat.le_of_ble_eq_true rfl) ((BtIn.up _ _ _).and (BtIn.up _ _ _)) (fun _ => Up.true) ?_
  refine svc_ok tabOk [] _ _ _ ?_
  refine bsplit_i (fun h => ?_) (fun h => ?_)
  · have h : (!decide ((l.length : Int) = (r.length : Int))) = true := h
    have hne : l ≠ r := fun e => by simp [e] at h
    exact ⟨_, rfl, Told.val (by simp [hne])⟩
  have hlen : l.length = r.length := by
    have h : (!decide ((l.length : Int) = (r.length : Int))) = false := h
    simp at h
    omega
  refine ⟨⟨Nat, fun j => j ≤ l.length ∧ l.take j = r.take j,
    fun j => { s := [(0, .one (.v (.slice A l.length c))), (1, .one (.v (.slice B r.length d))), (5, .one (.v (.int .i64 (j : Int))))], m := [], k := 0, f := [fun w => BtIn w A c l ∧ BtIn w B d r] },
    fun j => l.length - j, ⟨0, ⟨Nat.zero_le _, rfl⟩, ?_⟩, ?_⟩⟩
  · exact ent_ren [] rfl rfl rfl rfl (Nat.zero_le _) ⟨⟨_, rfl, rfl⟩, ⟨_, rfl, rfl⟩, ⟨_, rfl, rfl⟩, trivial⟩ trivial ⟨⟨(BtIn.up _ _ _).and (BtIn.up _ _ _), fun w h => h.1⟩, trivial⟩
  rintro j ⟨hj, hpre⟩
  refine bsplit_i (fun hlt => ?_) (fun hge => ?_)
  · have hlt : j < l.length := by
      have h : decide ((j : Int) < (l.length : Int)) = true := hlt
      have := of_decide_eq_true h
      omega
    obtain ⟨x, hx⟩ : ∃ x, l[j]? = some x := ⟨_, List.getElem?_eq_getElem hlt⟩
    obtain ⟨y, hy⟩ : ∃ y, r[j]? = some y := ⟨_, List.getElem?_eq_getElem (by omega)⟩
    have hax : ∀ {w}, BtIn w A c l → ∃ a, A = some a ∧ w.cell? (a.add (j * 1)) = some (.int .u8 (x : Int)) := fun h => by
      obtain ⟨a, ha, hc⟩ := h.cells j _ (bc_get hx)
      exact ⟨a, ha, by rw [Nat.mul_one]; exact hc⟩
    have hay : ∀ {w}, BtIn w B d r → ∃ a, B = some a ∧ w.cell? (a.add (j * 1)) = some (.int .u8 (y : Int)) := fun h => by
      obtain ⟨a, ha, hc⟩ := h.cells j _ (bc_get hy)
      exact ⟨a, ha, by rw [Nat.mul_one]; exact hc⟩
    refine .inl ⟨9, [0, 0, 3, 7, 0, 0, 48, 112, 255], fun vs i => match i with
      | 2 => { c := { n := j } }
      | 3 => { c := { v := .int .u8 (x : Int) } }
      | 6 => { c := { n := j } }
      | 7 => { c := { v := .int .u8 (y : Int) } }
      | _ => {}, by kernel_rfl, rfl, by kernel_rfl, by kernel_rfl, by kernel_rfl, by decide, fun vals => ?_⟩
    refine ⟨fun _ => ⟨rfl, hlt, fun w h => ?_⟩, ?_⟩
    · obtain ⟨a, ha, _⟩ := hax h.1.1
      rw [ha]; rfl
    refine ⟨fun _ w h => ?_, ?_⟩
    · obtain ⟨a, ha, hc⟩ := hax h.1.1
      exact ⟨_, by rw [ha]; rfl, hc⟩
    refine ⟨fun _ => ⟨rfl, by show j < r.length; omega, fun w h => ?_⟩, ?_⟩
    · obtain ⟨a, ha, _⟩ := hay h.1.2
      rw [ha]; rfl
    refine ⟨fun _ w h => ?_, ?_⟩
    · obtain ⟨a, ha, hc⟩ := hay h.1.2
      exact ⟨_, by rw [ha]; rfl, hc⟩
    intro _
    refine bsplit_i (fun h => ?_) (fun h => ?_)
    · have h : (!decide ((x : Int) = (y : Int))) = true := h
      have hne : l ≠ r := fun e => by
        rw [e, hy] at hx
        cases hx
        simp at h
      exact ⟨_, rfl, Told.val (by simp [hne])⟩
    · have h : (!decide ((x : Int) = (y : Int))) = false := h
      have h : x = y := by
        simp at h
        omega
      refine ⟨j + 1, ⟨hlt, by rw [List.take_add_one, List.take_add_one, hpre, hx, hy, h]⟩, by simp only; omega, ?_⟩
      exact ent_ren [] rfl rfl rfl rfl (Nat.zero_le _) ⟨⟨_, rfl, rfl⟩, ⟨_, rfl, rfl⟩, ⟨_, rfl, oneI (wrapI (by omega) (by omega))⟩, trivial⟩ trivial ⟨⟨(BtIn.up _ _ _).and (BtIn.up _ _ _), fun w h => h.1⟩, trivial⟩
  · have hge : l.length ≤ j := by
      have h : decide ((j : Int) < (l.length : Int)) = false := hge
      have := of_decide_eq_false h
      omega
    have heq : l = r := by
      rw [List.take_of_length_le hge, List.take_of_length_le (by omega)] at hpre
      exact hpre
    exact ⟨_, rfl, Told.val (by simp [heq])⟩
end Go.Proofs.YtmkpiekbpakigaaGreatDoor
end
section
set_option linter.unusedVariables false
set_option linter.unusedSimpArgs false
namespace Go.Proofs.YtmkpiekbpakigaaGreatDoor
open Go.RowKit Go.Proofs.Base Go.Proofs.Sym
def numOk (n : Nat) : LRes := { v := .tup [.one (.row 0), .one (.v (.bool true))], m := [(0, .own 5 1 (numB n).length (bc (numB n)))], k := 1 }
theorem Num_lc (n : Nat) (hn : n ≤ 1099511627776) : LCall Tryz.prog 9 [.one (.v (.int .i64 (n : Int)))] [] 0 (fun _ => True) (fun _ : Unit => True) (fun _ => numOk n) := by
  refine lcall_of tabOk 12 [.tmp 2, .tmp 3] Tryz.func9 rfl rfl (by kernel_rfl) rfl _ (Nat.le_of_ble_eq_true rfl) Up.true ?_
  refine svc_ok tabOk [] _ _ _ ?_
  refine bsplit_i (fun h2 => ?_) (fun h2 => ?_)
  · have h2 : decide ((1099511627776 : Int) < (n : Int)) = true := h2
    have := of_decide_eq_true h2
    omega
  refine callVC_fresh 5 1 [.one (.row 0), .one (.v (.int .i64 (n : Int)))] (fun e he hl => ⟨?_, ?_⟩) ?_
  · show [e.rv 0, _] = _
    rw [show e.rv 0 = Value.slice none 0 0 from he]
    rfl
  · intro x hx
    rcases List.mem_cons.1 hx with rfl | hx
    · exact Nat.lt_succ_self _
    · rw [List.mem_singleton.1 hx]
      trivial
  refine callVC_lend [0] (num_lc 0 [] n rfl (Nat.zero_le _) hn) rfl ⟨rfl, trivial⟩ rfl rfl (fun _ _ => trivial) (fun _ _ => ⟨rfl, rfl⟩) (fun _ _ => ?_)
  refine ⟨_, rfl, (), trivial, rfl, ?_⟩
  refine ent_ren [(0, .own 1)] rfl rfl rfl rfl (Nat.zero_le _) ?_ ?_ ?_
  · exact ⟨⟨_, rfl, rfl⟩, trivial⟩
  · exact ⟨⟨_, _, rfl, by simp, by simp⟩, trivial⟩
  · exact ⟨⟨Up.true, fun _ _ => trivial⟩, trivial⟩
end Go.Proofs.YtmkpiekbpakigaaGreatDoor
end
section
set_option linter.unusedVariables false
set_option linter.unusedSimpArgs false
namespace Go.Proofs.YtmkpiekbpakigaaGreatDoor
open Go.RowKit Go.Proofs.Base Go.Proofs.Sym Go.Lib
def byteI (x : Int) : Nat := (IntKind.u8.wrap x).toNat
theorem byteI_ok (x : Int) : IntKind.u8.wrap x = (byteI x : Int) := by
  have : IntKind.u8.wrap x = x % 256 := by simp [IntKind.wrap, IntKind.signed, IntKind.bits]
  unfold byteI
  rw [this]
  omega
def textN (s : ByteArray) : List Nat := numB s.size ++ s.data.toList.map UInt8.toNat
theorem textN_ok (s : ByteArray) : textB s = bc (textN s) := by
  unfold textB textN bc strCells
  rw [List.map_append, List.map_map]
  rfl
theorem textN_len (s : ByteArray) : (textN s).length ≤ 7 + s.size := by
  unfold textN
  have := numB_len s.size
  have h2 := size_list s
  rw [List.length_append, List.length_map]
  omega
theorem bc_app (a b : List Nat) : bc (a ++ b) = bc a ++ bc b := by simp [bc]
theorem bc_len (a : List Nat) : (bc a).length = a.length := by simp [bc]
/-- What stands behind a term's kind. -/
def kindN (k n : Int) (s : ByteArray) (ls : List Lv) : List Nat :=
  if k = 1 then numB n.toNat else if k = 9 then numB n.toNat ++ textN s else if k = 4 then textN s ++ [byteI ls.length] else []
structure NodeOk (k n : Int) (s : ByteArray) (ls : List Lv) (len : Nat) : Prop where
  num : k = 1 ∨ k = 9 → 0 ≤ n ∧ n ≤ 1099511627776
  name : s.size ≤ 32
  levels : ls.length ≤ 4
  args : len ≤ 3
theorem kindN_len {k n : Int} {s : ByteArray} {ls : List Lv} {len : Nat} (h : NodeOk k n s ls len) : (kindN k n s ls).length ≤ 46 := by
  have h1 := numB_len n.toNat
  have h2 := textN_len s
  have h3 := h.name
  unfold kindN
  split
  · omega
  · split
    · rw [List.length_append]; omega
    · split
      · rw [List.length_append]; simp; omega
      · simp
def byteP (p : Int) : Nat := byteI (IntKind.i64.wrap (p + 1))
def lvN (l : Lv) : List Nat := [byteI l.b, byteP l.p0, byteP l.p1, byteP l.p2, byteP l.p3]
def lvsN (ls : List Lv) : List Nat := ls.flatMap lvN
mutual
def putT : Tm → List Nat
  | .mk k n s ls args => byteI k :: (kindN k n s ls ++ (lvsN ls ++ putTs args))
def putTs : List Tm → List Nat
  | [] => []
  | t :: r => putT t ++ putTs r
end
mutual
def PutOk : Tm → Prop
  | .mk k n s ls args => NodeOk k n s ls args.length ∧ PutOks args
def PutOks : List Tm → Prop
  | [] => True
  | t :: r => PutOk t ∧ PutOks r
end
mutual
def wT : Tm → Nat
  | .mk _ _ _ _ args => 100 + wTs args
def wTs : List Tm → Nat
  | [] => 0
  | t :: r => wT t + wTs r
end
theorem lvsN_len (ls : List Lv) : (lvsN ls).length = 5 * ls.length := by
  induction ls with
  | nil => rfl
  | cons l r ih =>
    have : lvsN (l :: r) = lvN l ++ lvsN r := rfl
    rw [this, List.length_append, ih]
    simp [lvN]
    omega
theorem lvsN_take {ls : List Lv} {j : Nat} {l : Lv} (h : ls[j]? = some l) : lvsN (ls.take (j + 1)) = lvsN (ls.take j) ++ lvN l := by
  rw [List.take_add_one, h]
  simp [lvsN]
mutual
theorem putT_len : ∀ (t : Tm), PutOk t → (putT t).length ≤ wT t
  | .mk k n s ls args, h => by
    unfold PutOk at h
    have h1 := putTs_len args h.2
    have h2 := kindN_len h.1
    have h3 := lvsN_len ls
    have h4 := h.1.levels
    unfold putT wT
    simp only [List.length_cons, List.length_append]
    omega
theorem putTs_len : ∀ (ts : List Tm), PutOks ts → (putTs ts).length ≤ wTs ts
  | [], _ => by simp [putTs, wTs]
  | t :: r, h => by
    unfold PutOks at h
    have h1 := putT_len t h.1
    have h2 := putTs_len r h.2
    unfold putTs wTs
    rw [List.length_append]
    omega
end
theorem putOks_mem {t : Tm} : ∀ {ts : List Tm}, PutOks ts → t ∈ ts → PutOk t
  | u :: r, h, hm => by
    unfold PutOks at h
    rcases List.mem_cons.1 hm with rfl | hm
    · exact h.1
    · exact putOks_mem h.2 hm
theorem putTs_take {t : Tm} : ∀ {ts : List Tm} {j : Nat}, ts[j]? = some t → putTs (ts.take (j + 1)) = putTs (ts.take j) ++ putT t
  | u :: r, 0, h => by
    simp only [List.getElem?_cons_zero, Option.some.injEq] at h
    subst h
    simp [putTs]
  | u :: r, j + 1, h => by
    simp only [List.getElem?_cons_succ] at h
    rw [List.take_succ_cons, putTs, putTs_take h, List.take_succ_cons, putTs, List.append_assoc]
theorem wTs_take {t : Tm} : ∀ {ts : List Tm} {j : Nat}, ts[j]? = some t → wTs (ts.take j) + wT t ≤ wTs ts
  | u :: r, 0, h => by
    simp only [List.getElem?_cons_zero, Option.some.injEq] at h
    subst h
    simp [wTs]
  | u :: r, j + 1, h => by
    simp only [List.getElem?_cons_succ] at h
    have := wTs_take h
    rw [List.take_succ_cons, wTs, wTs]
    omega
theorem putOks_take : ∀ {ts : List Tm} (j : Nat), PutOks ts → PutOks (ts.take j)
  | [], j, h => by simpa using h
  | t :: r, 0, h => by simp [PutOks]
  | t :: r, j + 1, h => by
    unfold PutOks at h
    rw [List.take_succ_cons, PutOks]
    exact ⟨h.1, putOks_take j h.2⟩
theorem lv_part {l : Lv} {q : Nat} (h : q < 4) {ti : TyI} (hs : ti.size = 1) (ha : ti.agg = false) : partOf ti [.v (.int .i64 l.p0), .v (.int .i64 l.p1), .v (.int .i64 l.p2), .v (.int .i64 l.p3)] (q * ti.size) = some (.one (.v (.int .i64 (l.p q)))) := by
  unfold partOf
  rw [hs, ha]
  have : q = 0 ∨ q = 1 ∨ q = 2 ∨ q = 3 := by omega
  rcases this with rfl | rfl | rfl | rfl <;> rfl
/-- The first q bytes of a level's numbers. -/
def lvP (l : Lv) (q : Nat) : List Nat := ([byteP l.p0, byteP l.p1, byteP l.p2, byteP l.p3] : List Nat).take q
theorem lvP_succ (l : Lv) {q : Nat} (h : q < 4) : lvP l (q + 1) = lvP l q ++ [byteP (l.p q)] := by
  have : q = 0 ∨ q = 1 ∨ q = 2 ∨ q = 3 := by omega
  rcases this with rfl | rfl | rfl | rfl <;> rfl
theorem lvP_len (l : Lv) (q : Nat) (h : q ≤ 4) : (lvP l q).length = q := by
  unfold lvP
  rw [List.length_take]
  simp
  omega
def putRes (n0 : Nat) (xs : List Value) (ys : List Nat) : LRes := { v := .one (.row 1), m := [(1, .own 5 1 (n0 + ys.length) (xs ++ bc ys))], k := 2 }
def putM (t : TT) (n0 : Nat) (xs : List Value) (ys : List Nat) : List (Nat × LB) := [(2, .own 5 1 (n0 + ys.length) (xs ++ bc ys)), (1, .cells 25 (t.cells.map SA.v))]
def putSt (t : TT) (n0 : Nat) (xs : List Value) (ys : List Nat) : St := { s := [(0, .one (.row 2)), (3, .one (.p 1 0))], m := putM t n0 xs ys, k := 3, f := [fun w => TTIn w t], b := 1 }
def bV (b : Bool) : SV := .one (.v (.bool b))
def put8s (k : Int) : List (Nat × SV) := [(34, bV true), (34, bV (decide (k = 4))), (35, bV (decide (k = 4))), (25, bV false), (25, bV (decide (k = 9))), (26, bV (decide (k = 9))), (19, bV false), (19, bV (decide (k = 1))), (20, bV (decide (k = 1))), (18, .one (.v (.int .i64 k))), (17, .one (.p 1 0)), (0, .one (.row 2)), (3, .one (.p 1 0))]
set_option maxHeartbeats 4000000 in
theorem put_lc (t : TT) (n0 : Nat) (xs : List Value) (hx : xs.length = n0) (hw : n0 + wT t.tm ≤ 1099511000000) (hok : PutOk t.tm) :
    LCall Tryz.prog 47 [.one (.row 0), ttA t] [(0, .own 5 1 n0 xs)] 1 (fun w => TTIn w t) (fun _ : Unit => True) (fun _ => putRes n0 xs (putT t.tm)) := by
  induction hsz : SizeOf.sizeOf t using Nat.strongRecOn generalizing t n0 xs with
  | _ z ih =>
  obtain ⟨k, n, s, la, lc, ls, aa, ac, us⟩ := t
  subst hsz
  rw [tt_tm] at hw hok
  have hspec : putT (TT.mk k n s la lc ls aa ac us).tm = byteI k :: (kindN k n s ls ++ (lvsN ls ++ putTs (us.map TT.tm))) := by rw [tt_tm, putT]
  rw [hspec]
  unfold PutOk at hok
  obtain ⟨hok, hoks⟩ := hok
  rw [List.length_map] at hok
  unfold wT at hw
  have h0 : n0 ≤ 1099511000000 := by omega
  have hkl := kindN_len hok
  have hll := hok.levels
  have hal := hok.args
  obtain ⟨B, hB⟩ : ∃ B, kindN k n s ls = B := ⟨_, rfl⟩
  refine lcall_of tabOk 84 [.tmp 4] Tryz.func47 rfl rfl (by kernel_rfl) rfl _ (Nat.le_of_ble_eq_true rfl) (TTIn.upS _) ?_
  refine svc_ok tabOk [2] _ _ _ ?_
  refine ⟨{}, ⟨trivial, Nat.one_pos, .inr rfl, ?_, ?_⟩, ?_⟩
  · show n0 + 1 ≤ maxLen
    simp only [maxLen]; omega
  · show (n0 + 1) * 1 ≤ _
    omega
  refine Walks.ent (st' := putSt (TT.mk k n s la lc ls aa ac us) n0 xs [byteI k]) ?_ ?_
  · exact ent_ren [(2, .own 3), (1, .blk 1), (0, .blk 0)] rfl rfl rfl rfl (Nat.le_of_ble_eq_true rfl) ⟨⟨_, rfl, rfl⟩, ⟨_, rfl, rfl⟩, trivial⟩ ⟨⟨_, _, rfl, rfl, by rw [byteI_ok]; rfl⟩, ⟨_, rfl, rfl⟩, trivial⟩ ⟨⟨TTIn.upS _, fun w h => h.1⟩, trivial⟩
  refine Walks.cut (putSt (TT.mk k n s la lc ls aa ac us) n0 xs (byteI k :: kindN k n s ls)) ?_ ?_
  · refine svc_ok tabOk [] _ _ _ ?_
    refine bsplit_i (fun hk => ?_) (fun hk => ?_)
    · have hk : decide (k = 1) = true := hk
      have hk := of_decide_eq_true hk
      have hb := hok.num (.inl hk)
      have hkn : kindN k n s ls = numB n.toNat := by rw [kindN, if_pos hk]
      rw [hkn]
      obtain ⟨N, rfl⟩ : ∃ N : Nat, n = N := ⟨n.toNat, by omega⟩
      refine callVC_lend [2] (num_lc (n0 + 1) (xs ++ bc [byteI k]) N (by simp [hx, bc_len]) (by omega) (by omega)) rfl ⟨rfl, trivial⟩ rfl rfl (fun _ _ => trivial) (fun _ _ => ⟨rfl, rfl⟩) (fun _ _ => ?_)
      exact ent_ren [(2, .own 3), (1, .blk 1), (0, .blk 0)] rfl rfl rfl rfl (Nat.le_of_ble_eq_true rfl) ⟨⟨_, rfl, rfl⟩, ⟨_, rfl, rfl⟩, trivial⟩ ⟨⟨_, _, rfl, by simp; omega, by simp [bc]⟩, ⟨_, rfl, rfl⟩, trivial⟩ ⟨⟨TTIn.upS _, fun w h => h.2.1⟩, trivial⟩
    have hk1 : decide (k = 1) = false := hk
    have hk1 := of_decide_eq_false hk1
    refine bsplit_i (fun hk => ?_) (fun hk => ?_)
    · have hk : decide (k = 9) = true := hk
      have hk := of_decide_eq_true hk
      have hb := hok.num (.inr hk)
      have hkn : kindN k n s ls = numB n.toNat ++ textN s := by rw [kindN, if_neg hk1, if_pos hk]
      rw [hkn]
      obtain ⟨N, rfl⟩ : ∃ N : Nat, n = N := ⟨n.toNat, by omega⟩
      have hnl := numB_len N
      have hnm := hok.name
      have htx := text_lc (n0 + 1 + (numB N).length) ((xs ++ bc [byteI k]) ++ bc (numB N)) s (by simp [hx, bc_len]; omega) (by omega) (by omega)
      rw [show textRes (n0 + 1 + (numB N).length) ((xs ++ bc [byteI k]) ++ bc (numB N)) s = { v := .one (.row 1), m := [(1, .own 5 1 (n0 + 1 + (numB N).length + (textN s).length) ((xs ++ bc [byteI k]) ++ bc (numB N) ++ bc (textN s)))], k := 2 } by rw [textRes, textN_ok, bc_len]] at htx
      refine .inr ⟨[0, 0, 2, 7, 0, 16, 63, 127], [3, 6, 7], [(0, { dst := some 27, v := .one (.row 2), p := none, f := none }), (1, { dst := some 28, v := .one (.p 1 1), p := none, f := none }), (2, { dst := some 29, v := .one (.v (.int .i64 (N : Int))), p := none, f := none }), (4, { dst := some 31, v := .one (.p 1 2), p := none, f := none }), (5, { dst := some 32, v := .one (.v (.string s)), p := none, f := none })], by kernel_rfl, rfl, by kernel_rfl, by kernel_rfl, rfl, rfl, rfl, rfl, ?_⟩
      refine cgo_go _ [3] rfl (by kernel_rfl) (by kernel_rfl) ⟨⟨rfl, rfl⟩, ⟨rfl, rfl⟩, ⟨rfl, rfl⟩, ⟨rfl, rfl⟩, ⟨rfl, rfl⟩, trivial⟩ ⟨?_, trivial⟩
      refine ⟨_, rfl, rfl, _, rfl, ?_⟩
      refine callVC_lend [2] (num_lc (n0 + 1) (xs ++ bc [byteI k]) N (by simp [hx, bc_len]) (by omega) (by omega)) rfl ⟨rfl, trivial⟩ rfl rfl (fun _ _ => trivial) (fun _ _ => ⟨rfl, rfl⟩) (fun _ _ => ?_)
      refine cgo_go _ [6] rfl (by kernel_rfl) (by kernel_rfl) ⟨⟨rfl, trivial⟩, ⟨rfl, trivial⟩, ⟨rfl, trivial⟩, ⟨rfl, rfl⟩, ⟨rfl, rfl⟩, trivial⟩ ⟨?_, trivial⟩
      refine ⟨_, rfl, rfl, _, rfl, ?_⟩
      refine callVC_lend [3] htx rfl ⟨rfl, trivial⟩ rfl rfl (fun _ _ => trivial) (fun _ _ => ⟨rfl, rfl⟩) (fun _ _ => ?_)
      refine cgo_go _ [7] rfl (by kernel_rfl) (by kernel_rfl) ⟨⟨rfl, trivial⟩, ⟨rfl, trivial⟩, ⟨rfl, trivial⟩, ⟨rfl, trivial⟩, ⟨rfl, trivial⟩, trivial⟩ ⟨?_, trivial⟩
      refine ⟨_, rfl, rfl, _, rfl, ?_⟩
      refine cgo_end _ rfl (by kernel_rfl) ⟨⟨rfl, trivial⟩, ⟨rfl, trivial⟩, ⟨rfl, trivial⟩, ⟨rfl, trivial⟩, ⟨rfl, trivial⟩, trivial⟩ ?_
      exact ent_ren [(2, .own 4), (1, .blk 1), (0, .blk 0)] rfl rfl rfl rfl (Nat.le_of_ble_eq_true rfl) ⟨⟨_, rfl, rfl⟩, ⟨_, rfl, rfl⟩, trivial⟩ ⟨⟨_, _, rfl, by simp; omega, by simp [bc]⟩, ⟨_, rfl, rfl⟩, trivial⟩ ⟨⟨TTIn.upS _, fun w h => h.2.2.1⟩, trivial⟩
    have hk9 : decide (k = 9) = false := hk
    have hk9 := of_decide_eq_false hk9
    refine bsplit_i (fun hk => ?_) (fun hk => ?_)
    · have hk : decide (k = 4) = true := hk
      have hk := of_decide_eq_true hk
      have hkn : kindN k n s ls = textN s ++ [byteI ls.length] := by rw [kindN, if_neg hk1, if_neg hk9, if_pos hk]
      rw [hkn]
      have hnm := hok.name
      have htn := textN_len s
      have hla := hok.levels
      have htx := text_lc (n0 + 1) (xs ++ bc [byteI k]) s (by simp [hx, bc_len]) (by omega) (by omega)
      rw [show textRes (n0 + 1) (xs ++ bc [byteI k]) s = { v := .one (.row 1), m := [(1, .own 5 1 (n0 + 1 + (textN s).length) ((xs ++ bc [byteI k]) ++ bc (textN s)))], k := 2 } by rw [textRes, textN_ok, bc_len]] at htx
      refine .inr ⟨[0, 0, 2, 7, 0, 16, 48, 112, 240, 511, 1023], [3, 8, 9, 10], [(0, { dst := some 36, v := .one (.row 2), p := none, f := none }), (1, { dst := some 37, v := .one (.p 1 2), p := none, f := none }), (2, { dst := some 38, v := .one (.v (.string s)), p := none, f := none }), (4, { dst := some 40, v := .one (.p 1 3), p := none, f := none }), (5, { dst := some 41, v := .one (.v (.slice la ls.length lc)), p := none, f := none }), (6, { dst := some 42, v := .one (.v (.int .i64 (ls.length : Int))), p := none, f := none }), (7, { dst := some 43, v := .one (.v (.int .u8 (IntKind.u8.wrap (ls.length : Int)))), p := none, f := none })], by kernel_rfl, rfl, by kernel_rfl, by kernel_rfl, rfl, rfl, rfl, rfl, ?_⟩
      refine cgo_mono (K' := fun st' => Ent st' (putSt (TT.mk k n s la lc ls aa ac us) n0 xs (byteI k :: (textN s ++ [byteI ls.length])))) (fun st' h => h) _ _ _ ?_
      have hf1 : n0 + 1 + (textN s).length + 1 ≤ maxLen := by
        simp only [maxLen]; omega
      have hf2 : (n0 + 1 + (textN s).length + 1) * 1 ≤ 140737488355328 := by omega
      refine cgo_go { s := put8s k, m := putM (TT.mk k n s la lc ls aa ac us) n0 xs [byteI k], k := 3, f := [fun w => TTIn w (TT.mk k n s la lc ls aa ac us)], b := 1 } [3, 8] rfl (by kernel_rfl) (by kernel_rfl) ⟨⟨rfl, rfl⟩, ⟨rfl, rfl⟩, ⟨rfl, rfl⟩, ⟨rfl, rfl⟩, ⟨rfl, rfl⟩, ⟨rfl, rfl⟩, ⟨rfl, rfl⟩, trivial⟩ ⟨?_, ?_, trivial⟩
      · refine ⟨_, rfl, rfl, _, rfl, ?_⟩
        refine callVC_lend [2] htx rfl ⟨rfl, trivial⟩ rfl rfl (fun _ _ => trivial) (fun _ _ => ⟨rfl, rfl⟩) (fun _ _ => ?_)
        refine cgo_go { s := (39, .one (.row 3)) :: put8s k, m := (3, .own 5 1 (n0 + 1 + (textN s).length) ((xs ++ bc [byteI k]) ++ bc (textN s))) :: (2, .dead) :: putM (TT.mk k n s la lc ls aa ac us) n0 xs [byteI k], k := 4, f := (fun _ => True) :: [fun w => TTIn w (TT.mk k n s la lc ls aa ac us)], b := 1 } [8] rfl (by kernel_rfl) (by kernel_rfl) ⟨⟨rfl, trivial⟩, ⟨rfl, trivial⟩, ⟨rfl, trivial⟩, ⟨rfl, rfl⟩, ⟨rfl, rfl⟩, ⟨rfl, rfl⟩, ⟨rfl, rfl⟩, trivial⟩ ⟨?_, trivial⟩
        refine ⟨_, rfl, rfl, _, rfl, ?_⟩
        refine cgo_go { s := (44, .one (.sl 4 0 1 1)) :: (39, .one (.row 3)) :: put8s k, m := (4, .cells 5 [.v (.int .u8 (IntKind.u8.wrap (ls.length : Int)))]) :: (3, .own 5 1 (n0 + 1 + (textN s).length) ((xs ++ bc [byteI k]) ++ bc (textN s))) :: (2, .dead) :: putM (TT.mk k n s la lc ls aa ac us) n0 xs [byteI k], k := 5, f := (fun _ => True) :: [fun w => TTIn w (TT.mk k n s la lc ls aa ac us)], b := 1 } [9] rfl (by kernel_rfl) (by kernel_rfl) ⟨⟨rfl, trivial⟩, ⟨rfl, trivial⟩, ⟨rfl, trivial⟩, ⟨rfl, trivial⟩, ⟨rfl, trivial⟩, ⟨rfl, trivial⟩, ⟨rfl, trivial⟩, trivial⟩ ⟨?_, trivial⟩
        refine ⟨_, rfl, rfl, _, rfl, ?_⟩
        refine ⟨{}, ⟨trivial, Nat.one_pos, .inr rfl, hf1, hf2⟩, ?_⟩
        refine cgo_go { s := (45, .one (.row 5)) :: (44, .one (.sl 4 0 1 1)) :: (39, .one (.row 3)) :: put8s k, m := (5, .own 5 1 (n0 + 1 + (textN s).length + 1) (((xs ++ bc [byteI k]) ++ bc (textN s)) ++ [.int .u8 (IntKind.u8.wrap (ls.length : Int))])) :: (3, .dead) :: (4, .cells 5 [.v (.int .u8 (IntKind.u8.wrap (ls.length : Int)))]) :: (3, .own 5 1 (n0 + 1 + (textN s).length) ((xs ++ bc [byteI k]) ++ bc (textN s))) :: (2, .dead) :: putM (TT.mk k n s la lc ls aa ac us) n0 xs [byteI k], k := 6, f := (fun _ => True) :: [fun w => TTIn w (TT.mk k n s la lc ls aa ac us)], b := 1 } [10] rfl (by kernel_rfl) (by kernel_rfl) ⟨⟨rfl, trivial⟩, ⟨rfl, trivial⟩, ⟨rfl, trivial⟩, ⟨rfl, trivial⟩, ⟨rfl, trivial⟩, ⟨rfl, trivial⟩, ⟨rfl, trivial⟩, trivial⟩ ⟨?_, trivial⟩
        refine ⟨_, rfl, rfl, _, rfl, ?_⟩
        refine cgo_end _ rfl (by kernel_rfl) ⟨⟨rfl, trivial⟩, ⟨rfl, trivial⟩, ⟨rfl, trivial⟩, ⟨rfl, trivial⟩, ⟨rfl, trivial⟩, ⟨rfl, trivial⟩, ⟨rfl, trivial⟩, trivial⟩ ?_
        exact ent_ren [(2, .own 5), (1, .blk 1), (0, .blk 0)] rfl rfl rfl rfl (Nat.le_of_ble_eq_true rfl) ⟨⟨_, rfl, rfl⟩, ⟨_, rfl, rfl⟩, trivial⟩ ⟨⟨_, _, rfl, by simp; omega, by simp [bc, byteI_ok]⟩, ⟨_, rfl, rfl⟩, trivial⟩ ⟨⟨TTIn.upS _, fun w h => h.2.1⟩, trivial⟩
      · refine ⟨_, rfl, rfl, _, rfl, ?_⟩
        refine cgo_go { s := (44, .one (.sl 3 0 1 1)) :: put8s k, m := (3, .cells 5 [.v (.int .u8 (IntKind.u8.wrap (ls.length : Int)))]) :: putM (TT.mk k n s la lc ls aa ac us) n0 xs [byteI k], k := 4, f := [fun w => TTIn w (TT.mk k n s la lc ls aa ac us)], b := 1 } [3] rfl (by kernel_rfl) (by kernel_rfl) ⟨⟨rfl, rfl⟩, ⟨rfl, rfl⟩, ⟨rfl, rfl⟩, ⟨rfl, trivial⟩, ⟨rfl, trivial⟩, ⟨rfl, trivial⟩, ⟨rfl, trivial⟩, trivial⟩ ⟨?_, trivial⟩
        refine ⟨_, rfl, rfl, _, rfl, ?_⟩
        refine callVC_lend [2] htx rfl ⟨rfl, trivial⟩ rfl rfl (fun _ _ => trivial) (fun _ _ => ⟨rfl, rfl⟩) (fun _ _ => ?_)
        refine cgo_go { s := (39, .one (.row 4)) :: (44, .one (.sl 3 0 1 1)) :: put8s k, m := (4, .own 5 1 (n0 + 1 + (textN s).length) ((xs ++ bc [byteI k]) ++ bc (textN s))) :: (2, .dead) :: (3, .cells 5 [.v (.int .u8 (IntKind.u8.wrap (ls.length : Int)))]) :: putM (TT.mk k n s la lc ls aa ac us) n0 xs [byteI k], k := 5, f := (fun _ => True) :: [fun w => TTIn w (TT.mk k n s la lc ls aa ac us)], b := 1 } [9] rfl (by kernel_rfl) (by kernel_rfl) ⟨⟨rfl, trivial⟩, ⟨rfl, trivial⟩, ⟨rfl, trivial⟩, ⟨rfl, trivial⟩, ⟨rfl, trivial⟩, ⟨rfl, trivial⟩, ⟨rfl, trivial⟩, trivial⟩ ⟨?_, trivial⟩
        refine ⟨_, rfl, rfl, _, rfl, ?_⟩
        refine ⟨{}, ⟨trivial, Nat.one_pos, .inr rfl, hf1, hf2⟩, ?_⟩
        refine cgo_go { s := (45, .one (.row 5)) :: (39, .one (.row 4)) :: (44, .one (.sl 3 0 1 1)) :: put8s k, m := (5, .own 5 1 (n0 + 1 + (textN s).length + 1) (((xs ++ bc [byteI k]) ++ bc (textN s)) ++ [.int .u8 (IntKind.u8.wrap (ls.length : Int))])) :: (4, .dead) :: (4, .own 5 1 (n0 + 1 + (textN s).length) ((xs ++ bc [byteI k]) ++ bc (textN s))) :: (2, .dead) :: (3, .cells 5 [.v (.int .u8 (IntKind.u8.wrap (ls.length : Int)))]) :: putM (TT.mk k n s la lc ls aa ac us) n0 xs [byteI k], k := 6, f := (fun _ => True) :: [fun w => TTIn w (TT.mk k n s la lc ls aa ac us)], b := 1 } [10] rfl (by kernel_rfl) (by kernel_rfl) ⟨⟨rfl, trivial⟩, ⟨rfl, trivial⟩, ⟨rfl, trivial⟩, ⟨rfl, trivial⟩, ⟨rfl, trivial⟩, ⟨rfl, trivial⟩, ⟨rfl, trivial⟩, trivial⟩ ⟨?_, trivial⟩
        refine ⟨_, rfl, rfl, _, rfl, ?_⟩
        refine cgo_end _ rfl (by kernel_rfl) ⟨⟨rfl, trivial⟩, ⟨rfl, trivial⟩, ⟨rfl, trivial⟩, ⟨rfl, trivial⟩, ⟨rfl, trivial⟩, ⟨rfl, trivial⟩, ⟨rfl, trivial⟩, trivial⟩ ?_
        exact ent_ren [(2, .own 5), (1, .blk 1), (0, .blk 0)] rfl rfl rfl rfl (Nat.le_of_ble_eq_true rfl) ⟨⟨_, rfl, rfl⟩, ⟨_, rfl, rfl⟩, trivial⟩ ⟨⟨_, _, rfl, by simp; omega, by simp [bc, byteI_ok]⟩, ⟨_, rfl, rfl⟩, trivial⟩ ⟨⟨TTIn.upS _, fun w h => h.2.1⟩, trivial⟩
    have hk4 : decide (k = 4) = false := hk
    have hk4 := of_decide_eq_false hk4
    have hkn : kindN k n s ls = [] := by rw [kindN, if_neg hk1, if_neg hk9, if_neg hk4]
    rw [hkn]
    exact ent_ren [(2, .own 2), (1, .blk 1), (0, .blk 0)] rfl rfl rfl rfl (Nat.le_of_ble_eq_true rfl) ⟨⟨_, rfl, rfl⟩, ⟨_, rfl, rfl⟩, trivial⟩ ⟨⟨_, _, rfl, rfl, rfl⟩, ⟨_, rfl, rfl⟩, trivial⟩ ⟨⟨TTIn.upS _, fun w h => h.1⟩, trivial⟩
  · rw [hB] at hkl ⊢
    refine svc_ok tabOk [] _ _ _ ?_
    refine ⟨⟨Nat, fun j => j ≤ ls.length,
      fun j => { s := [(0, .one (.row 2)), (3, .one (.p 1 0)), (47, .one (.v (.slice la ls.length lc))), (48, .one (.v (.int .i64 (ls.length : Int)))), (49, .one (.v (.int .i64 (j : Int))))], m := putM (TT.mk k n s la lc ls aa ac us) n0 xs (byteI k :: (B ++ lvsN (ls.take j))), k := 3, f := [fun w => TTIn w (TT.mk k n s la lc ls aa ac us)], b := 1 },
      fun j => ls.length - j, ⟨0, Nat.zero_le _, ?_⟩, ?_⟩⟩
    · exact ent_ren [(2, .own 2), (1, .blk 1), (0, .blk 0)] rfl rfl rfl rfl (Nat.le_of_ble_eq_true rfl) ⟨⟨_, rfl, rfl⟩, ⟨_, rfl, rfl⟩, ⟨_, rfl, rfl⟩, ⟨_, rfl, rfl⟩, ⟨_, rfl, rfl⟩, trivial⟩ ⟨⟨_, _, rfl, by simp [lvsN], by simp [lvsN]⟩, ⟨_, rfl, rfl⟩, trivial⟩ ⟨⟨TTIn.upS _, fun w h => h.1⟩, trivial⟩
    rintro j hj
    refine bsplit_i (fun hlt => ?_) (fun hge => ?_)
    · have hlt : j < ls.length := by
        have h : decide ((j : Int) < (ls.length : Int)) = true := hlt
        have := of_decide_eq_true h
        omega
      obtain ⟨l, hl⟩ : ∃ l, ls[j]? = some l := ⟨_, List.getElem?_eq_getElem hlt⟩
      have htk := lvsN_take hl
      have hlj : (lvsN (ls.take j)).length = 5 * j := by rw [lvsN_len, List.length_take]; omega
      refine ⟨{ n := j }, ⟨rfl, hlt, fun w h => ?_⟩, ?_⟩
      · obtain ⟨a, ha, _⟩ := lvRow_at h.1.node.hls hl
        rw [ha]; rfl
      refine ⟨{ cs := lvCells l }, ⟨lvCells_one l, rfl, fun w h => ?_⟩, ?_⟩
      · obtain ⟨a, ha, hc⟩ := lvRow_at h.1.node.hls hl
        exact ⟨_, by rw [ha]; rfl, hc⟩
      refine ⟨{}, ⟨trivial, Nat.one_pos, .inr rfl, ?_, ?_⟩, ?_⟩
      · show n0 + (byteI k :: (B ++ lvsN (ls.take j))).length + 1 ≤ maxLen
        simp only [maxLen, List.length_cons, List.length_append]; omega
      · show (n0 + (byteI k :: (B ++ lvsN (ls.take j))).length + 1) * 1 ≤ _
        simp only [List.length_cons, List.length_append]; omega
      refine ⟨⟨Nat, fun q => q ≤ 4,
        fun q => { s := [(0, .one (.row 2)), (3, .one (.p 1 0)), (47, .one (.v (.slice la ls.length lc))), (48, .one (.v (.int .i64 (ls.length : Int)))), (49, .one (.v (.int .i64 (j : Int)))), (60, .agg [.v (.int .i64 l.p0), .v (.int .i64 l.p1), .v (.int .i64 l.p2), .v (.int .i64 l.p3)]), (61, .one (.v (.int .i64 (q : Int))))], m := putM (TT.mk k n s la lc ls aa ac us) n0 xs (byteI k :: (B ++ (lvsN (ls.take j) ++ (byteI l.b :: lvP l q)))), k := 3, f := [fun w => TTIn w (TT.mk k n s la lc ls aa ac us)], b := 1 },
        fun q => 4 - q, ⟨0, Nat.zero_le _, ?_⟩, ?_⟩⟩
      · exact ent_ren [(2, .own 5), (1, .blk 1), (0, .blk 0)] rfl rfl rfl rfl (Nat.le_of_ble_eq_true rfl) ⟨⟨_, rfl, rfl⟩, ⟨_, rfl, rfl⟩, ⟨_, rfl, rfl⟩, ⟨_, rfl, rfl⟩, ⟨_, rfl, rfl⟩, ⟨_, rfl, rfl⟩, ⟨_, rfl, rfl⟩, trivial⟩ ⟨⟨_, _, rfl, by simp [lvP]; omega, by simp [lvP, bc, byteI_ok]⟩, ⟨_, rfl, rfl⟩, trivial⟩ ⟨⟨TTIn.upS _, fun w h => h.1⟩, trivial⟩
      rintro q hq
      have hql := lvP_len l q hq
      refine bsplit_i (fun hlt => ?_) (fun hge => ?_)
      · have hq4 : q < 4 := by
          have h : decide ((q : Int) < 4) = true := hlt
          have := of_decide_eq_true h
          omega
        refine ⟨{ n := q, u := some (.one (.v (.int .i64 (l.p q)))) }, ⟨rfl, hq4, lv_part hq4 rfl rfl⟩, ?_⟩
        refine ⟨{}, ⟨trivial, Nat.one_pos, .inr rfl, ?_, ?_⟩, ?_⟩
        · show n0 + (byteI k :: (B ++ (lvsN (ls.take j) ++ (byteI l.b :: lvP l q)))).length + 1 ≤ maxLen
          simp only [maxLen, List.length_cons, List.length_append]; omega
        · show (n0 + (byteI k :: (B ++ (lvsN (ls.take j) ++ (byteI l.b :: lvP l q)))).length + 1) * 1 ≤ _
          simp only [List.length_cons, List.length_append]; omega
        refine ⟨q + 1, hq4, by simp only; omega, ?_⟩
        exact ent_ren [(2, .own 4), (1, .blk 1), (0, .blk 0)] rfl rfl rfl rfl (Nat.le_of_ble_eq_true rfl) ⟨⟨_, rfl, rfl⟩, ⟨_, rfl, rfl⟩, ⟨_, rfl, rfl⟩, ⟨_, rfl, rfl⟩, ⟨_, rfl, rfl⟩, ⟨_, rfl, rfl⟩, ⟨_, rfl, oneI (wrapI (by omega) (by omega))⟩, trivial⟩ ⟨⟨_, _, rfl, by rw [lvP_succ l hq4]; simp; omega, by rw [lvP_succ l hq4]; simp [bc, byteP, byteI_ok]⟩, ⟨_, rfl, rfl⟩, trivial⟩ ⟨⟨TTIn.upS _, fun w h => h.1⟩, trivial⟩
      · have hq4 : q = 4 := by
          have h : decide ((q : Int) < 4) = false := hge
          have := of_decide_eq_false h
          omega
        subst hq4
        refine ⟨j + 1, hlt, by simp only; omega, ?_⟩
        have hlv : lvsN (ls.take (j + 1)) = lvsN (ls.take j) ++ (byteI l.b :: lvP l 4) := htk
        exact ent_ren [(2, .own 2), (1, .blk 1), (0, .blk 0)] rfl rfl rfl rfl (Nat.le_of_ble_eq_true rfl) ⟨⟨_, rfl, rfl⟩, ⟨_, rfl, rfl⟩, ⟨_, rfl, rfl⟩, ⟨_, rfl, rfl⟩, ⟨_, rfl, oneI (wrapI (by omega) (by omega))⟩, trivial⟩ ⟨⟨_, _, rfl, by rw [hlv], by rw [hlv]⟩, ⟨_, rfl, rfl⟩, trivial⟩ ⟨⟨TTIn.upS _, fun w h => h.1⟩, trivial⟩
    · have hge : ls.length ≤ j := by
        have h : decide ((j : Int) < (ls.length : Int)) = false := hge
        have := of_decide_eq_false h
        omega
      have hlsl := lvsN_len ls
      refine ⟨⟨Nat, fun i => i ≤ us.length,
        fun i => { s := [(0, .one (.row 2)), (3, .one (.p 1 0)), (73, .one (.v (.slice aa us.length ac))), (74, .one (.v (.int .i64 (us.length : Int)))), (75, .one (.v (.int .i64 (i : Int))))], m := putM (TT.mk k n s la lc ls aa ac us) n0 xs (byteI k :: (B ++ (lvsN ls ++ putTs ((us.map TT.tm).take i)))), k := 3, f := [fun w => TTIn w (TT.mk k n s la lc ls aa ac us)], b := 1 },
        fun i => us.length - i, ⟨0, Nat.zero_le _, ?_⟩, ?_⟩⟩
      · exact ent_ren [(2, .own 2), (1, .blk 1), (0, .blk 0)] rfl rfl rfl rfl (Nat.le_of_ble_eq_true rfl) ⟨⟨_, rfl, rfl⟩, ⟨_, rfl, rfl⟩, ⟨_, rfl, rfl⟩, ⟨_, rfl, rfl⟩, ⟨_, rfl, rfl⟩, trivial⟩ ⟨⟨_, _, rfl, by rw [List.take_of_length_le hge]; simp [putTs], by rw [List.take_of_length_le hge]; simp [putTs]⟩, ⟨_, rfl, rfl⟩, trivial⟩ ⟨⟨TTIn.upS _, fun w h => h.1⟩, trivial⟩
      rintro i hi
      refine bsplit_i (fun hlt => ?_) (fun hge => ?_)
      · have hlt : i < us.length := by
          have h : decide ((i : Int) < (us.length : Int)) = true := hlt
          have := of_decide_eq_true h
          omega
        obtain ⟨u, hu⟩ : ∃ u, us[i]? = some u := ⟨_, List.getElem?_eq_getElem hlt⟩
        have hut : (us.map TT.tm)[i]? = some u.tm := by rw [List.getElem?_map, hu]; rfl
        have hmem := List.mem_of_getElem? hu
        have htk := putTs_take hut
        have hwk := wTs_take hut
        have hpl := putTs_len _ (putOks_take i hoks)
        have hrec := ih _ (tt_size hmem) u (n0 + (byteI k :: (B ++ (lvsN ls ++ putTs ((us.map TT.tm).take i)))).length) (xs ++ bc (byteI k :: (B ++ (lvsN ls ++ putTs ((us.map TT.tm).take i))))) (by rw [List.length_append, bc_len, hx]) (by simp only [List.length_cons, List.length_append]; omega) (putOks_mem hoks (List.mem_of_getElem? hut)) rfl
        obtain ⟨Z, hZ⟩ : ∃ Z, putT u.tm = Z := ⟨_, rfl⟩
        rw [hZ] at hrec htk
        obtain ⟨uk, un, uname, ula, ulc, uls, uaa, uac, uus⟩ := u
        refine ⟨{ n := i }, ⟨rfl, hlt, fun w h => ?_⟩, ?_⟩
        · obtain ⟨⟨a, ha, _⟩, _⟩ := h.1.arg hu
          rw [ha]
          rfl
        refine ⟨{ cs := (TT.mk uk un uname ula ulc uls uaa uac uus).cells }, ⟨TT.cells_one (TT.mk uk un uname ula ulc uls uaa uac uus), rfl, fun w h => ?_⟩, ?_⟩
        · obtain ⟨⟨a, ha, hc⟩, _⟩ := h.1.arg hu
          exact ⟨_, by rw [ha]; rfl, hc⟩
        refine callVC_lend [2] hrec rfl ⟨rfl, trivial⟩ rfl rfl (fun w h => (h.1.arg hu).2) (fun _ _ => ⟨rfl, rfl⟩) (fun _ _ => ?_)
        refine ⟨i + 1, hlt, by simp only; omega, ?_⟩
        exact ent_ren [(2, .own 4), (1, .blk 1), (0, .blk 0)] rfl rfl rfl rfl (Nat.le_of_ble_eq_true rfl) ⟨⟨_, rfl, rfl⟩, ⟨_, rfl, rfl⟩, ⟨_, rfl, rfl⟩, ⟨_, rfl, rfl⟩, ⟨_, rfl, oneI (wrapI (by omega) (by omega))⟩, trivial⟩ ⟨⟨_, _, rfl, by rw [htk]; simp; omega, by rw [htk]; simp [bc]⟩, ⟨_, rfl, rfl⟩, trivial⟩ ⟨⟨TTIn.upS _, fun w h => h.2.1⟩, trivial⟩
      · have hge : us.length ≤ i := by
          have h : decide ((i : Int) < (us.length : Int)) = false := hge
          have := of_decide_eq_false h
          omega
        refine ⟨_, rfl, (), trivial, rfl, ?_⟩
        have he : (us.map TT.tm).take i = us.map TT.tm := List.take_of_length_le (by simpa using hge)
        exact ent_ren [(1, .own 2), (0, .blk 0)] rfl rfl rfl rfl (Nat.le_of_ble_eq_true rfl) ⟨⟨_, rfl, rfl⟩, trivial⟩ ⟨⟨_, _, rfl, by rw [he], by rw [he]⟩, trivial⟩ ⟨⟨Up.true, fun _ _ => trivial⟩, trivial⟩
end Go.Proofs.YtmkpiekbpakigaaGreatDoor
end
section
set_option linter.unusedVariables false
set_option linter.unusedSimpArgs false
namespace Go.Proofs.YtmkpiekbpakigaaGreatDoor
open Go.RowKit Go.Proofs.Base Go.Proofs.Sym
/-- A declaration, and where its parts lie. -/
structure DD where
  kind : Int
  params : Int
  name : ByteArray
  ty : TT
  val : TT
  fixed : Int
  ca : Option Addr
  cc : Nat
  cts : List (ByteArray × TT)
def DD.cells (d : DD) : List Value := .int .i64 d.kind :: .int .i64 d.params :: .string d.name :: (d.ty.cells ++ (d.val.cells ++ [.int .i64 d.fixed, .slice d.ca d.cts.length d.cc]))
def DD.dv (d : DD) : Value := .agg d.cells.toArray
/-- A declaration alone. -/
structure DM where
  kind : Int
  params : Int
  name : ByteArray
  ty : Tm
  val : Tm
  fixed : Int
  cts : List (ByteArray × Tm)
def ctM (c : ByteArray × TT) : ByteArray × Tm := (c.1, c.2.tm)
def DD.dm (d : DD) : DM := ⟨d.kind, d.params, d.name, d.ty.tm, d.val.tm, d.fixed, d.cts.map ctM⟩
def ctCells (c : ByteArray × TT) : List Value := .string c.1 :: c.2.cells
theorem ctCells_one (c : ByteArray × TT) : ∀ v ∈ ctCells c, v.oneCell' = true := by
  intro v hv
  rcases List.mem_cons.1 hv with rfl | hv
  · rfl
  · exact TT.cells_one _ v hv
/-- The constructors lie so. -/
def CtsIn (w : World) (ca : Option Addr) (cts : List (ByteArray × TT)) : Prop := ∀ (j : Nat) c, cts[j]? = some c → (∃ a, ca = some a ∧ ∀ l u, (ctCells c)[l]? = some u → w.cell? ((a.add (j * 6)).add l) = some u) ∧ TTIn w c.2 ∧ c.1.size ≤ maxLen
theorem CtsIn.up (ca : Option Addr) (cts : List (ByteArray × TT)) : Up fun w => CtsIn w ca cts := by
  intro w w' h hc j c hj
  obtain ⟨⟨a, ha, h1⟩, h2, h3⟩ := hc j c hj
  exact ⟨⟨a, ha, fun l u hl => h.cell (h1 l u hl)⟩, TTIn.up h _ h2, h3⟩
structure DDIn (w : World) (d : DD) : Prop where
  hkind : I64 d.kind
  hparams : I64 d.params
  hname : d.name.size ≤ maxLen
  hty : TTIn w d.ty
  hval : TTIn w d.val
  hfixed : I64 d.fixed
  hcts : CtsIn w d.ca d.cts
  hca : d.ca = none → d.cts.length = 0 ∧ d.cc = 0
  hcc : d.cts.length ≤ d.cc
  hcm : d.cc ≤ maxLen
theorem DDIn.up (d : DD) : Up fun w => DDIn w d := fun w w' h hd => ⟨hd.hkind, hd.hparams, hd.hname, TTIn.up h _ hd.hty, TTIn.up h _ hd.hval, hd.hfixed, CtsIn.up _ _ _ _ h hd.hcts, hd.hca, hd.hcc, hd.hcm⟩
def wrongC (p : Int) (c : ByteArray × Tm) : Bool := !wordB c.1 || !rightB p 0 c.2
def valB (k : Int) : Bool := decide (k = 2) || decide (k = 3)
def formedB (d : DM) : Bool :=
  if d.kind < 1 ∨ 4 < d.kind ∨ wordB d.name = false ∨ rightB d.params 0 d.ty = false then false
  else if (valB d.kind = true ∧ rightB d.params 0 d.val = false) ∨ (valB d.kind = false ∧ emptyT d.val = false) then false
  else if d.kind ≠ 4 then decide (d.fixed = 0) && decide ((d.cts.length : Int) = 0)
  else decide (0 ≤ d.fixed) && (decide (d.fixed ≤ 16) && (decide ((d.cts.length : Int) ≤ 8) && !d.cts.any (wrongC d.params)))
section
variable (k p : Int) (nm : ByteArray) (t1 t2 : TT) (fx : Int) (ca : Option Addr) (cc : Nat) (cts : List (ByteArray × TT))
def dA : List SA := (DD.mk k p nm t1 t2 fx ca cc cts).cells.map SA.v
def fA : List SA := [.fn 54 [] [.p 0]]
def fm1 (b : Bool) : LRes := { v := .one (.v (.bool b)), m := [(0, .cells 38 (dA k p nm t1 t2 fx ca cc cts))], k := 1 }
def fm2m : List (Nat × LB) := [(0, .cells 38 (dA k p nm t1 t2 fx ca cc cts)), (1, .cells 28 fA)]
def fm2 (v : Value) : LRes := { v := .one (.v v), m := fm2m k p nm t1 t2 fx ca cc cts, k := 2 }
theorem formed1_lc (t : TT) : LCall Tryz.prog 54 [ttA t, .one (.p 0 0)] [(0, .cells 38 (dA k p nm t1 t2 fx ca cc cts))] 1 (fun w => ML w ∧ TTIn w t) (fun _ : Unit => True) (fun _ => fm1 k p nm t1 t2 fx ca cc cts (rightB p 0 t.tm)) := by
  have hr := Right_pc t p 0
  obtain ⟨b, hb⟩ : ∃ b, rightB p 0 t.tm = b := ⟨_, rfl⟩
  rw [hb] at hr ⊢
  have hup : Up fun w => ML w ∧ TTIn w t := ML.up.and (TTIn.upS _)
  obtain ⟨tk, tn, tnm, tla, tlc, tls, taa, tac, tus⟩ := t
  obtain ⟨ak, an, anm, ala, alc, als, aaa, aac, aus⟩ := t1
  obtain ⟨bk, bn, bnm, bla, blc, bls, baa, bac, bus⟩ := t2
  refine lcall_of tabOk 8 [.tmp 3] Tryz.func54 rfl rfl (by kernel_rfl) rfl _ (Nat.le_of_ble_eq_true rfl) hup ?_
  refine svc_ok tabOk [] _ _ _ ?_
  refine callVC_plain hr (fun _ => rfl) (fun w h => h.1) ?_
  rintro r rfl
  refine ⟨_, rfl, (), trivial, rfl, ?_⟩
  exact ent_ren [(0, .blk 0)] rfl rfl rfl rfl (Nat.le_refl _) ⟨⟨_, rfl, rfl⟩, trivial⟩ ⟨⟨_, rfl, rfl⟩, trivial⟩ ⟨⟨Up.true, fun _ _ => trivial⟩, trivial⟩
def ctA (c : ByteArray × TT) : SV := .agg ((ctCells c).map SA.v)
theorem formed2_lc (c : ByteArray × TT) : LCall Tryz.prog 56 [ctA c, .one (.p 1 0)] (fm2m k p nm t1 t2 fx ca cc cts) 2 (fun w => ML w ∧ TTIn w c.2) (fun _ : Unit => True) (fun _ => fm2 k p nm t1 t2 fx ca cc cts (.bool (wrongC p (ctM c)))) := by
  have hw := word_pc c.1
  have h1 := formed1_lc k p nm t1 t2 fx ca cc cts c.2
  have hsp : wrongC p (ctM c) = (!wordB c.1 || !rightB p 0 c.2.tm) := rfl
  rw [hsp]
  obtain ⟨b1, e1⟩ : ∃ b, wordB c.1 = b := ⟨_, rfl⟩
  obtain ⟨b2, e2⟩ : ∃ b, rightB p 0 c.2.tm = b := ⟨_, rfl⟩
  rw [e1] at hw ⊢
  rw [e2] at h1 ⊢
  have hup : Up fun w => ML w ∧ TTIn w c.2 := ML.up.and (TTIn.upS _)
  obtain ⟨cn, ⟨tk, tn, tnm, tla, tlc, tls, taa, tac, tus⟩⟩ := c
  obtain ⟨ak, an, anm, ala, alc, als, aaa, aac, aus⟩ := t1
  obtain ⟨bk, bn, bnm, bla, blc, bls, baa, bac, bus⟩ := t2
  refine lcall_of tabOk 15 [.tmp 3] Tryz.func56 rfl rfl (by kernel_rfl) rfl _ (Nat.le_of_ble_eq_true rfl) hup ?_
  refine svc_ok tabOk [] _ _ _ ?_
  refine callVC_plain hw (fun _ => rfl) (fun w h => h.1.1) ?_
  rintro r rfl
  cases b1 with
  | false =>
    refine ⟨_, rfl, (), trivial, rfl, ?_⟩
    exact ent_ren [(1, .blk 1), (0, .blk 0)] rfl rfl rfl rfl (Nat.le_refl _) ⟨⟨_, rfl, rfl⟩, trivial⟩ ⟨⟨_, rfl, rfl⟩, ⟨_, rfl, rfl⟩, trivial⟩ ⟨⟨Up.true, fun _ _ => trivial⟩, trivial⟩
  | true =>
    refine callVC_lend [0] h1 rfl ⟨rfl, trivial⟩ rfl rfl (fun w h => h.2.1) (fun _ _ => ⟨rfl, rfl⟩) (fun _ _ => ?_)
    refine ⟨_, rfl, (), trivial, rfl, ?_⟩
    exact ent_ren [(1, .blk 1), (0, .blk 0)] rfl rfl rfl rfl (Nat.le_refl _) ⟨⟨_, rfl, rfl⟩, trivial⟩ ⟨⟨_, rfl, rfl⟩, ⟨_, rfl, rfl⟩, trivial⟩ ⟨⟨Up.true, fun _ _ => trivial⟩, trivial⟩
/-- The first wrong constructor. -/
def cIdx (p : Int) : List (ByteArray × Tm) → Nat → Int
  | [], _ => -1
  | c :: r, i => if wrongC p c then (i : Int) else cIdx p r (i + 1)
theorem cIdx_any (p : Int) : ∀ (cs : List (ByteArray × Tm)) (i : Nat), decide (0 ≤ cIdx p cs i) = cs.any (wrongC p)
  | [], i => rfl
  | c :: r, i => by
    unfold cIdx
    rw [List.any_cons]
    cases wrongC p c with
    | true => simp
    | false => simpa using cIdx_any p r (i + 1)
def cPre (w : World) : Prop := ML w ∧ CtsIn w ca cts
theorem cPre.upS : Up (cPre ca cts) := ML.up.and (CtsIn.up _ _)
theorem formedIdx_lc (hl : cts.length ≤ 9223372036854775807) : LCall Tryz.prog 101 [.one (.v (.slice ca cts.length cc)), .one (.fn 56 [] [.p 1])] (fm2m k p nm t1 t2 fx ca cc cts) 2 (cPre ca cts) (fun _ : Unit => True) (fun _ => fm2 k p nm t1 t2 fx ca cc cts (.int .i64 (cIdx p (cts.map ctM) 0))) := by
  have h2 := fun c => formed2_lc k p nm t1 t2 fx ca cc cts c
  obtain ⟨ak, an, anm, ala, alc, als, aaa, aac, aus⟩ := t1
  obtain ⟨bk, bn, bnm, bla, blc, bls, baa, bac, bus⟩ := t2
  refine lcall_of tabOk 19 [.tmp 4] Tryz.func101 rfl rfl (by kernel_rfl) rfl _ (Nat.le_of_ble_eq_true rfl) (cPre.upS _ _) ?_
  refine svc_ok tabOk [] _ _ _ ?_
  refine ⟨⟨Nat, fun j => j ≤ cts.length ∧ cIdx p ((cts.map ctM).drop j) j = cIdx p (cts.map ctM) 0,
    fun j => { s := [(0, .one (.v (.slice ca cts.length cc))), (1, .one (.fn 56 [] [.p 1])), (7, .one (.v (.int .i64 (cts.length : Int)))), (8, .one (.v (.int .i64 (j : Int))))], m := fm2m k p nm (.mk ak an anm ala alc als aaa aac aus) (.mk bk bn bnm bla blc bls baa bac bus) fx ca cc cts, k := 2, f := [cPre ca cts], b := 2 },
    fun j => cts.length - j, ⟨0, ⟨Nat.zero_le _, rfl⟩, ?_⟩, ?_⟩⟩
  · exact ent_ren [(1, .blk 1), (0, .blk 0)] rfl rfl rfl rfl (Nat.le_refl _) ⟨⟨_, rfl, rfl⟩, ⟨_, rfl, rfl⟩, ⟨_, rfl, rfl⟩, ⟨_, rfl, rfl⟩, trivial⟩ ⟨⟨_, rfl, rfl⟩, ⟨_, rfl, rfl⟩, trivial⟩ ⟨⟨cPre.upS _ _, fun w h => h.1⟩, trivial⟩
  rintro j ⟨hj, hA⟩
  refine bsplit_i (fun hlt => ?_) (fun hge => ?_)
  · have hlt : j < cts.length := by
      have h : decide ((j : Int) < (cts.length : Int)) = true := hlt
      have := of_decide_eq_true h
      omega
    obtain ⟨c, hc⟩ : ∃ c, cts[j]? = some c := ⟨_, List.getElem?_eq_getElem hlt⟩
    have h2 := h2 c
    have hstep : cIdx p (cts.map ctM) 0 = if wrongC p (ctM c) then (j : Int) else cIdx p ((cts.map ctM).drop (j + 1)) (j + 1) := by
      rw [← hA, List.drop_eq_getElem_cons (by simpa using hlt), cIdx]
      simp [(List.getElem?_eq_some_iff.1 hc).2]
    obtain ⟨b, hb⟩ : ∃ b, wrongC p (ctM c) = b := ⟨_, rfl⟩
    rw [hb] at h2 hstep
    obtain ⟨cn, ⟨tk, tn, tnm, tla, tlc, tls, taa, tac, tus⟩⟩ := c
    refine ⟨{ n := j }, ⟨rfl, hlt, fun w h => ?_⟩, ?_⟩
    · obtain ⟨⟨a, ha, _⟩, _⟩ := h.1.2 j _ hc
      rw [ha]; rfl
    refine ⟨{ cs := ctCells (cn, TT.mk tk tn tnm tla tlc tls taa tac tus) }, ⟨ctCells_one (cn, TT.mk tk tn tnm tla tlc tls taa tac tus), rfl, fun w h => ?_⟩, ?_⟩
    · obtain ⟨⟨a, ha, h3⟩, _⟩ := h.1.2 j _ hc
      exact ⟨_, by rw [ha]; rfl, h3⟩
    refine callVC_lend [0, 1] h2 rfl ⟨rfl, rfl, trivial⟩ rfl rfl (fun w h => ⟨h.1.1, (h.1.2 j _ hc).2.1⟩) (fun _ _ => ⟨rfl, rfl⟩) (fun _ _ => ?_)
    cases b with
    | true =>
      refine ⟨_, rfl, (), trivial, rfl, ?_⟩
      rw [hstep]
      exact ent_ren [(1, .blk 1), (0, .blk 0)] rfl rfl rfl rfl (Nat.le_refl _) ⟨⟨_, rfl, rfl⟩, trivial⟩ ⟨⟨_, rfl, rfl⟩, ⟨_, rfl, rfl⟩, trivial⟩ ⟨⟨Up.true, fun _ _ => trivial⟩, trivial⟩
    | false =>
      refine ⟨j + 1, ⟨hlt, hstep.symm⟩, by simp only; omega, ?_⟩
      exact ent_ren [(1, .blk 1), (0, .blk 0)] rfl rfl rfl rfl (Nat.le_refl _) ⟨⟨_, rfl, rfl⟩, ⟨_, rfl, rfl⟩, ⟨_, rfl, rfl⟩, ⟨_, rfl, oneI (wrapI (by omega) (by omega))⟩, trivial⟩ ⟨⟨_, rfl, rfl⟩, ⟨_, rfl, rfl⟩, trivial⟩ ⟨⟨cPre.upS _ _, fun w h => h.2.1⟩, trivial⟩
  · have hge : cts.length ≤ j := by
      have h : decide ((j : Int) < (cts.length : Int)) = false := hge
      have := of_decide_eq_false h
      omega
    have hend : cIdx p (cts.map ctM) 0 = -1 := by
      rw [← hA, List.drop_eq_nil_of_le (by simpa using hge)]
      rfl
    refine ⟨_, rfl, (), trivial, rfl, ?_⟩
    rw [hend]
    exact ent_ren [(1, .blk 1), (0, .blk 0)] rfl rfl rfl rfl (Nat.le_refl _) ⟨⟨_, rfl, rfl⟩, trivial⟩ ⟨⟨_, rfl, rfl⟩, ⟨_, rfl, rfl⟩, trivial⟩ ⟨⟨Up.true, fun _ _ => trivial⟩, trivial⟩
theorem formedCon_lc (hl : cts.length ≤ 9223372036854775807) : LCall Tryz.prog 59 [.one (.v (.slice ca cts.length cc)), .one (.fn 56 [] [.p 1])] (fm2m k p nm t1 t2 fx ca cc cts) 2 (cPre ca cts) (fun _ : Unit => True) (fun _ => fm2 k p nm t1 t2 fx ca cc cts (.bool ((cts.map ctM).any (wrongC p)))) := by
  have h2 := formedIdx_lc k p nm t1 t2 fx ca cc cts hl
  rw [← cIdx_any p (cts.map ctM) 0]
  obtain ⟨ak, an, anm, ala, alc, als, aaa, aac, aus⟩ := t1
  obtain ⟨bk, bn, bnm, bla, blc, bls, baa, bac, bus⟩ := t2
  refine lcall_of tabOk 9 [.tmp 4] Tryz.func59 rfl rfl (by kernel_rfl) rfl _ (Nat.le_of_ble_eq_true rfl) (cPre.upS _ _) ?_
  refine svc_ok tabOk [] _ _ _ ?_
  refine callVC_lend [0, 1] h2 rfl ⟨rfl, rfl, trivial⟩ rfl rfl (fun w h => h.1) (fun _ _ => ⟨rfl, rfl⟩) (fun _ _ => ?_)
  refine ⟨_, rfl, (), trivial, rfl, ?_⟩
  exact ent_ren [(1, .blk 1), (0, .blk 0)] rfl rfl rfl rfl (Nat.le_refl _) ⟨⟨_, rfl, rfl⟩, trivial⟩ ⟨⟨_, rfl, rfl⟩, ⟨_, rfl, rfl⟩, trivial⟩ ⟨⟨Up.true, fun _ _ => trivial⟩, trivial⟩
end
end Go.Proofs.YtmkpiekbpakigaaGreatDoor
end
section
set_option linter.unusedVariables false
set_option linter.unusedSimpArgs false
namespace Go.Proofs.YtmkpiekbpakigaaGreatDoor
open Go.RowKit Go.Proofs.Base Go.Proofs.Sym
def dPre (d : DD) (w : World) : Prop := ML w ∧ DDIn w d
theorem dPre.upS (d : DD) : Up (dPre d) := ML.up.and (DDIn.up _)
set_option maxHeartbeats 4000000 in
theorem Formed_pc (d : DD) : PCall Tryz.prog 19 [d.dv] (dPre d) (fun r => r = .bool (formedB d.dm)) (fun _ _ => True) := by
  by_cases hl : d.cts.length ≤ 9223372036854775807
  rotate_left
  · refine ⟨enters Tryz.func19 (by kernel_rfl) (by kernel_rfl), fun _ => Up.true, fun w H hH hp => ?_⟩
    have h1 := hp.2.hcc
    have h2 := hp.2.hcm
    simp only [maxLen] at h2
    omega
  obtain ⟨k, p, nm, t1, t2, fx, ca, cc, cts⟩ := d
  have hw := word_pc nm
  have hv := valued_pc k
  have he := empty_pc t2
  have hc1 := formed1_lc k p nm t1 t2 fx ca cc cts t1
  have hc2 := formed1_lc k p nm t1 t2 fx ca cc cts t2
  have hcc := formedCon_lc k p nm t1 t2 fx ca cc cts hl
  obtain ⟨D, hD⟩ : ∃ D, (DD.mk k p nm t1 t2 fx ca cc cts).dm = D := ⟨_, rfl⟩
  have hk : D.kind = k := by rw [← hD]; rfl
  have hnm : D.name = nm := by rw [← hD]; rfl
  have hp : D.params = p := by rw [← hD]; rfl
  have hfx : D.fixed = fx := by rw [← hD]; rfl
  have hlen : D.cts.length = cts.length := by rw [← hD]; simp [DD.dm]
  obtain ⟨bw, e2⟩ : ∃ b, wordB nm = b := ⟨_, rfl⟩
  obtain ⟨b1, e3⟩ : ∃ b, rightB p 0 t1.tm = b := ⟨_, rfl⟩
  obtain ⟨b2, e5⟩ : ∃ b, rightB p 0 t2.tm = b := ⟨_, rfl⟩
  obtain ⟨be, e6⟩ : ∃ b, emptyT t2.tm = b := ⟨_, rfl⟩
  obtain ⟨bc, e9⟩ : ∃ b, (cts.map ctM).any (wrongC p) = b := ⟨_, rfl⟩
  rw [e2] at hw
  rw [e3] at hc1
  rw [e5] at hc2
  rw [e6] at he
  rw [e9] at hcc
  have e3' : rightB D.params 0 D.ty = b1 := by rw [← hD, ← e3]; rfl
  have e5' : rightB D.params 0 D.val = b2 := by rw [← hD, ← e5]; rfl
  have e6' : emptyT D.val = be := by rw [← hD, ← e6]; rfl
  have e9' : D.cts.any (wrongC D.params) = bc := by rw [← hD, ← e9]; rfl
  have e2' : wordB D.name = bw := by rw [hnm, e2]
  obtain ⟨bv, e4⟩ : ∃ b, valB k = b := ⟨_, rfl⟩
  have e4' : valB D.kind = bv := by rw [hk, e4]
  have hv : PCall Tryz.prog 52 [.int .i64 k] (fun _ => True) (fun r => r = .bool bv) (fun _ _ => True) := by rw [← e4]; exact hv
  obtain ⟨ak, an, anm, ala, alc, als, aaa, aac, aus⟩ := t1
  obtain ⟨bk, bn, bnm, bla, blc, bls, baa, bac, bus⟩ := t2
  refine pcall_of tabOk 86 [.tmp 2] Tryz.func19 rfl rfl (by kernel_rfl) rfl _ (Nat.le_of_ble_eq_true rfl) (dPre.upS _) (fun _ => Up.true) ?_
  refine svc_ok tabOk [] _ _ _ ?_
  refine bsplit_i (fun g1 => ?_) (fun g1 => ?_)
  · have g1 : decide (k < 1) = true := g1
    have g1 := of_decide_eq_true g1
    exact ⟨_, rfl, Told.val (by rw [hD]; simp [formedB, hk, g1])⟩
  have g1 : decide (k < 1) = false := g1
  have g1 := of_decide_eq_false g1
  refine bsplit_i (fun g2 => ?_) (fun g2 => ?_)
  · have g2 : decide (4 < k) = true := g2
    have g2 := of_decide_eq_true g2
    exact ⟨_, rfl, Told.val (by rw [hD]; simp [formedB, hk, g2])⟩
  have g2 : decide (4 < k) = false := g2
  have g2 := of_decide_eq_false g2
  refine callVC_plain hw (fun _ => rfl) (fun w h => h.1.1) ?_
  rintro r rfl
  cases bw with
  | false => exact ⟨_, rfl, Told.val (by rw [hD]; simp [formedB, e2'])⟩
  | true =>
  refine callVC_lend [0] hc1 rfl ⟨rfl, trivial⟩ rfl rfl (fun w h => ⟨h.2.1.1, h.2.1.2.hty⟩) (fun _ _ => ⟨rfl, rfl⟩) (fun _ _ => ?_)
  cases b1 with
  | false => exact ⟨_, rfl, Told.val (by rw [hD]; simp [formedB, e3'])⟩
  | true =>
  refine callVC_plain hv (fun _ => rfl) (fun _ _ => trivial) ?_
  rintro r rfl
  cases bv with
  | true =>
    refine callVC_lend [0] hc2 rfl ⟨rfl, trivial⟩ rfl rfl (fun w h => ⟨h.2.2.2.1.1, h.2.2.2.1.2.hval⟩) (fun _ _ => ⟨rfl, rfl⟩) (fun _ _ => ?_)
    cases b2 with
    | false => exact ⟨_, rfl, Told.val (by rw [hD]; simp [formedB, e4', e5'])⟩
    | true =>
    refine callVC_plain hv (fun _ => rfl) (fun _ _ => trivial) ?_
    rintro r rfl
    have hf : formedB D = (if k ≠ 4 then decide (fx = 0) && decide ((cts.length : Int) = 0) else decide (0 ≤ fx) && (decide (fx ≤ 16) && (decide ((cts.length : Int) ≤ 8) && !bc))) := by
      unfold formedB
      rw [if_neg (by rw [hk, e2', e3']; simp; omega), if_neg (by rw [e4', e5']; simp), hk, hfx, hlen, e9']
    refine bsplit_i (fun g3 => ?_) (fun g3 => ?_)
    · have g3 : (!decide (k = 4)) = true := g3
      have g3 : ¬ k = 4 := by simpa using g3
      refine bsplit_i (fun g4 => ?_) (fun g4 => ?_)
      · have g4 : decide (fx = 0) = true := g4
        exact ⟨_, rfl, Told.val (by rw [hD, hf, if_pos g3, g4]; rfl)⟩
      · have g4 : decide (fx = 0) = false := g4
        exact ⟨_, rfl, Told.val (by rw [hD, hf, if_pos g3, g4]; rfl)⟩
    have g3 : (!decide (k = 4)) = false := g3
    have g3 : k = 4 := by simpa using g3
    refine bsplit_i (fun g4 => ?_) (fun g4 => ?_)
    rotate_left
    · have g4 : decide (0 ≤ fx) = false := g4
      exact ⟨_, rfl, Told.val (by rw [hD, hf, if_neg (fun h => h g3), g4]; rfl)⟩
    have g4 : decide (0 ≤ fx) = true := g4
    have g4 := of_decide_eq_true g4
    refine bsplit_i (fun g5 => ?_) (fun g5 => ?_)
    rotate_left
    · have g5 : decide (fx ≤ 16) = false := g5
      exact ⟨_, rfl, Told.val (by rw [hD, hf, if_neg (fun h => h g3), decide_eq_true g4, g5]; rfl)⟩
    have g5 : decide (fx ≤ 16) = true := g5
    have g5 := of_decide_eq_true g5
    refine bsplit_i (fun g6 => ?_) (fun g6 => ?_)
    rotate_left
    · have g6 : decide ((cts.length : Int) ≤ 8) = false := g6
      exact ⟨_, rfl, Told.val (by rw [hD, hf, if_neg (fun h => h g3), decide_eq_true g4, decide_eq_true g5, g6]; rfl)⟩
    have g6 : decide ((cts.length : Int) ≤ 8) = true := g6
    have g6 := of_decide_eq_true g6
    refine callVC_lend [0, 1] hcc rfl ⟨rfl, rfl, trivial⟩ rfl rfl (fun w h => ⟨h.2.2.2.2.2.1.1, h.2.2.2.2.2.1.2.hcts⟩) (fun _ _ => ⟨rfl, rfl⟩) (fun _ _ => ?_)
    exact ⟨_, rfl, Told.val (by rw [hD, hf, if_neg (fun h => h g3), decide_eq_true g4, decide_eq_true g5, decide_eq_true g6]; rfl)⟩
  | false =>
    refine callVC_plain hv (fun _ => rfl) (fun _ _ => trivial) ?_
    rintro r rfl
    refine callVC_plain he (fun _ => rfl) (fun _ _ => trivial) ?_
    rintro r rfl
    cases be with
    | false => exact ⟨_, rfl, Told.val (by rw [hD]; simp [formedB, e4', e6'])⟩
    | true =>
    have hf : formedB D = (if k ≠ 4 then decide (fx = 0) && decide ((cts.length : Int) = 0) else decide (0 ≤ fx) && (decide (fx ≤ 16) && (decide ((cts.length : Int) ≤ 8) && !bc))) := by
      unfold formedB
      rw [if_neg (by rw [hk, e2', e3']; simp; omega), if_neg (by rw [e4', e6']; simp), hk, hfx, hlen, e9']
    refine bsplit_i (fun g3 => ?_) (fun g3 => ?_)
    · have g3 : (!decide (k = 4)) = true := g3
      have g3 : ¬ k = 4 := by simpa using g3
      refine bsplit_i (fun g4 => ?_) (fun g4 => ?_)
      · have g4 : decide (fx = 0) = true := g4
        exact ⟨_, rfl, Told.val (by rw [hD, hf, if_pos g3, g4]; rfl)⟩
      · have g4 : decide (fx = 0) = false := g4
        exact ⟨_, rfl, Told.val (by rw [hD, hf, if_pos g3, g4]; rfl)⟩
    have g3 : (!decide (k = 4)) = false := g3
    have g3 : k = 4 := by simpa using g3
    refine bsplit_i (fun g4 => ?_) (fun g4 => ?_)
    rotate_left
    · have g4 : decide (0 ≤ fx) = false := g4
      exact ⟨_, rfl, Told.val (by rw [hD, hf, if_neg (fun h => h g3), g4]; rfl)⟩
    have g4 : decide (0 ≤ fx) = true := g4
    have g4 := of_decide_eq_true g4
    refine bsplit_i (fun g5 => ?_) (fun g5 => ?_)
    rotate_left
    · have g5 : decide (fx ≤ 16) = false := g5
      exact ⟨_, rfl, Told.val (by rw [hD, hf, if_neg (fun h => h g3), decide_eq_true g4, g5]; rfl)⟩
    have g5 : decide (fx ≤ 16) = true := g5
    have g5 := of_decide_eq_true g5
    refine bsplit_i (fun g6 => ?_) (fun g6 => ?_)
    rotate_left
    · have g6 : decide ((cts.length : Int) ≤ 8) = false := g6
      exact ⟨_, rfl, Told.val (by rw [hD, hf, if_neg (fun h => h g3), decide_eq_true g4, decide_eq_true g5, g6]; rfl)⟩
    have g6 : decide ((cts.length : Int) ≤ 8) = true := g6
    have g6 := of_decide_eq_true g6
    refine callVC_lend [0, 1] hcc rfl ⟨rfl, rfl, trivial⟩ rfl rfl (fun w h => ⟨h.2.2.2.2.2.1.1, h.2.2.2.2.2.1.2.hcts⟩) (fun _ _ => ⟨rfl, rfl⟩) (fun _ _ => ?_)
    exact ⟨_, rfl, Told.val (by rw [hD, hf, if_neg (fun h => h g3), decide_eq_true g4, decide_eq_true g5, decide_eq_true g6]; rfl)⟩
end Go.Proofs.YtmkpiekbpakigaaGreatDoor
end
section
set_option linter.unusedVariables false
set_option linter.unusedSimpArgs false
namespace Go.Proofs.YtmkpiekbpakigaaGreatDoor
open Go.RowKit Go.Proofs.Base Go.Proofs.Sym
theorem nodeB_parts {k n : Int} {s : ByteArray} {ls : List Lv} {len p v d : Int} (h : nodeB k n s ls len p v d = true) :
    1 ≤ k ∧ k ≤ 9 ∧ d ≤ 200 ∧ len = argOf k ∧ numberedB k n s v = true ∧ leveledB k ls p = true := by
  unfold nodeB at h
  simp only [Bool.and_eq_true, Bool.not_eq_true', decide_eq_false_iff_not, decide_eq_true_eq] at h
  obtain ⟨h1, h2, h3, h4, h5, h6⟩ := h
  exact ⟨by omega, by omega, by omega, h4, h5, h6⟩
theorem argOf_le (k : Int) : 0 ≤ argOf k ∧ argOf k ≤ 3 := by
  unfold argOf
  split
  · omega
  · split
    · omega
    · split <;> omega
theorem levOf_le (k : Int) : 0 ≤ levOf k ∧ levOf k ≤ 4 := by
  unfold levOf
  split
  · omega
  · split <;> omega
theorem leveled_parts {k : Int} {ls : List Lv} {p : Int} (h : leveledB k ls p = true) : (ls.length : Int) ≤ levOf k ∧ (k = 3 → ls.length ≠ 0) ∧ ls.any (lvWrong p) = false := by
  unfold leveledB at h
  simp only [Bool.and_eq_true, Bool.not_eq_true', Bool.or_eq_false_iff, decide_eq_false_iff_not, Bool.and_eq_false_iff] at h
  obtain ⟨⟨h1, h2⟩, h3⟩ := h
  refine ⟨by omega, fun hk h0 => ?_, h3⟩
  rcases h2 with h2 | h2
  · exact h2 hk
  · rw [h0] at h2
    exact h2 rfl
theorem word_size {s : ByteArray} (h : wordB s = true) : s.size ≤ 32 := by
  unfold wordB at h
  simp only [Bool.and_eq_true, decide_eq_true_eq] at h
  exact h.1.1
theorem noText_eq {s : ByteArray} (h : noText s = true) : s = ⟨#[]⟩ := of_decide_eq_true h
/-- What stands in a node that may have its number and its name. -/
theorem numbered_parts {k n : Int} {s : ByteArray} {v : Int} (h : numberedB k n s v = true) :
    (k = 1 → 0 ≤ n ∧ n < v ∧ s = ⟨#[]⟩) ∧ (k = 4 → n = 0 ∧ wordB s = true) ∧ (k = 9 → 0 ≤ n ∧ n ≤ 31 ∧ wordB s = true) ∧ (k ≠ 1 → k ≠ 4 → k ≠ 9 → n = 0 ∧ s = ⟨#[]⟩) := by
  unfold numberedB at h
  refine ⟨fun hk => ?_, fun hk => ?_, fun hk => ?_, fun h1 h4 h9 => ?_⟩
  · rw [if_pos hk] at h
    simp only [Bool.and_eq_true, decide_eq_true_eq] at h
    exact ⟨h.1, h.2.1, noText_eq h.2.2⟩
  · rw [if_neg (by omega), if_pos hk] at h
    simp only [Bool.and_eq_true, decide_eq_true_eq] at h
    exact h
  · rw [if_neg (by omega), if_neg (by omega), if_pos hk] at h
    simp only [Bool.and_eq_true, decide_eq_true_eq] at h
    exact ⟨h.1, h.2.1, h.2.2⟩
  · rw [if_neg h1, if_neg h4, if_neg h9] at h
    simp only [Bool.and_eq_true, decide_eq_true_eq] at h
    exact ⟨h.1, noText_eq h.2⟩
theorem name_size {k n : Int} {s : ByteArray} {v : Int} (h : numberedB k n s v = true) : s.size ≤ 32 := by
  obtain ⟨h1, h4, h9, h0⟩ := numbered_parts h
  by_cases k1 : k = 1
  · rw [(h1 k1).2.2]; exact Nat.zero_le _
  · by_cases k4 : k = 4
    · exact word_size (h4 k4).2
    · by_cases k9 : k = 9
      · exact word_size (h9 k9).2.2
      · rw [(h0 k1 k4 k9).2]; exact Nat.zero_le _
mutual
def cntT : Tm → Int
  | .mk _ _ _ ls args => 1 + ls.length + cntTs args
def cntTs : List Tm → Int
  | [] => 0
  | t :: r => cntT t + cntTs r
end
mutual
theorem cntT_pos : ∀ (t : Tm), 1 ≤ cntT t
  | .mk _ _ _ ls args => by
    have := cntTs_pos args
    unfold cntT
    omega
theorem cntTs_pos : ∀ (ts : List Tm), 0 ≤ cntTs ts
  | [] => by simp [cntTs]
  | t :: r => by
    have h1 := cntT_pos t
    have h2 := cntTs_pos r
    unfold cntTs
    omega
end
mutual
theorem wT_cnt : ∀ (t : Tm), (wT t : Int) ≤ 100 * cntT t
  | .mk _ _ _ ls args => by
    have := wTs_cnt args
    unfold wT cntT
    omega
theorem wTs_cnt : ∀ (ts : List Tm), (wTs ts : Int) ≤ 100 * cntTs ts
  | [] => by simp [wTs, cntTs]
  | t :: r => by
    have h1 := wT_cnt t
    have h2 := wTs_cnt r
    unfold wTs cntTs
    omega
end
theorem cntB_eq {c : Int} {ls : List Lv} (h0 : 0 ≤ c) (h1 : c ≤ 3000) (hl : (ls.length : Int) ≤ 4) : cntB c ls = c + (1 + ls.length) := by
  unfold cntB
  rw [wrapI (n := 1 + (ls.length : Int)) (by omega) (by omega), wrapI (by omega) (by omega)]
mutual
theorem vis_ok (p v d : Int) : ∀ (t : Tm) (c : Int), allT p v d t = true → 0 ≤ c → c ≤ 3000 → ((visT c t).2 = true ∧ (visT c t).1 = c + cntT t ∧ c + cntT t ≤ 3000) ∨ ((visT c t).2 = false ∧ 3000 < (visT c t).1)
  | .mk k n s ls args, c, h, h0, h1 => by
    unfold allT at h
    rw [Bool.and_eq_true] at h
    obtain ⟨_, _, _, _, _, hl⟩ := nodeB_parts h.1
    have hl := (leveled_parts hl).1
    have hl4 := (levOf_le k).2
    have hc := cntB_eq (ls := ls) h0 h1 (by omega)
    unfold visT cntT
    by_cases hle : cntB c ls ≤ 3000
    · have hd : decide (cntB c ls ≤ 3000) = true := decide_eq_true hle
      simp only [hd]
      rw [hc] at hle ⊢
      rcases viss_ok k p v d args 0 (c + (1 + ls.length)) h.2 (by omega) hle with ⟨g1, g2, g3⟩ | g
      · exact .inl ⟨g1, by rw [g2]; omega, by omega⟩
      · exact .inr g
    · have hd : decide (cntB c ls ≤ 3000) = false := decide_eq_false hle
      simp only [hd]
      exact .inr ⟨trivial, by omega⟩
theorem viss_ok (k p v d : Int) : ∀ (ts : List Tm) (i : Nat) (c : Int), allTs k p v d i ts = true → 0 ≤ c → c ≤ 3000 → ((visTs c ts).2 = true ∧ (visTs c ts).1 = c + cntTs ts ∧ c + cntTs ts ≤ 3000) ∨ ((visTs c ts).2 = false ∧ 3000 < (visTs c ts).1)
  | [], i, c, _, h0, h1 => by
    unfold visTs cntTs
    exact .inl ⟨rfl, by simp, by omega⟩
  | t :: r, i, c, h, h0, h1 => by
    unfold allTs at h
    rw [Bool.and_eq_true] at h
    unfold visTs cntTs
    rcases vis_ok p _ _ t c h.1 h0 h1 with ⟨g1, g2, g3⟩ | ⟨g1, g2⟩
    · rw [g1]
      simp only
      rw [g2]
      have := cntT_pos t
      rcases viss_ok k p v d r (i + 1) (c + cntT t) h.2 (by omega) g3 with ⟨g4, g5, g6⟩ | g
      · exact .inl ⟨g4, by rw [g5]; omega, by omega⟩
      · exact .inr g
    · rw [g1]
      exact .inr ⟨rfl, g2⟩
end
mutual
theorem putOk_of (p v d : Int) : ∀ (t : Tm), allT p v d t = true → nearT t = true → PutOk t
  | .mk k n s ls args, h, hn => by
    unfold allT at h
    rw [Bool.and_eq_true] at h
    unfold nearT at hn
    rw [Bool.and_eq_true] at hn
    obtain ⟨_, _, _, ha, hnum, hl⟩ := nodeB_parts h.1
    have hl := (leveled_parts hl).1
    have hl4 := (levOf_le k).2
    have ha3 := (argOf_le k).2
    obtain ⟨h1, h4, h9, h0⟩ := numbered_parts hnum
    unfold PutOk
    refine ⟨⟨fun hk => ?_, name_size hnum, by omega, by omega⟩, putOks_of k p v d args 0 h.2 hn.2⟩
    rcases hk with hk | hk
    · have h1 := h1 hk
      have hn1 := hn.1
      rw [hk] at hn1
      simp at hn1
      exact ⟨h1.1, hn1⟩
    · have h9 := h9 hk
      exact ⟨h9.1, by omega⟩
theorem putOks_of (k p v d : Int) : ∀ (ts : List Tm) (i : Nat), allTs k p v d i ts = true → nearTs ts = true → PutOks ts
  | [], _, _, _ => by simp [PutOks]
  | t :: r, i, h, hn => by
    unfold allTs at h
    rw [Bool.and_eq_true] at h
    unfold nearTs at hn
    rw [Bool.and_eq_true] at hn
    unfold PutOks
    exact ⟨putOk_of p _ _ t h.1 hn.1, putOks_of k p v d r (i + 1) h.2 hn.2⟩
end
theorem right_cnt {p v : Int} {t : Tm} (h : rightB p v t = true) : allT p v 0 t = true ∧ cntT t ≤ 3000 := by
  unfold rightB at h
  simp only [Bool.and_eq_true, decide_eq_true_eq] at h
  obtain ⟨_, _, _, _, h5, h6⟩ := h
  refine ⟨h6, ?_⟩
  unfold nodesV at h5
  rcases vis_ok p v 0 t 0 h6 (by omega) (by omega) with ⟨g1, g2, g3⟩ | ⟨g1, g2⟩
  · omega
  · split at h5 <;> omega
theorem code_ok {t : Tm} (h : codeB t = true) : PutOk t ∧ wT t ≤ 300000 ∧ cntT t ≤ 3000 := by
  unfold codeB at h
  rw [Bool.and_eq_true] at h
  obtain ⟨h1, h2⟩ := right_cnt h.1
  have h3 := wT_cnt t
  exact ⟨putOk_of _ _ _ t h1 h.2, by omega, h2⟩
theorem deepI_le (k a : Int) : 0 ≤ deepI k a ∧ deepI k a ≤ 1 := by
  unfold deepI
  split <;> omega
mutual
theorem near_of (p : Int) : ∀ (t : Tm) (v d : Int), allT p v d t = true → 0 ≤ v → v ≤ d → nearT t = true
  | .mk k n s ls args, v, d, h, h0, h1 => by
    unfold allT at h
    rw [Bool.and_eq_true] at h
    obtain ⟨_, _, hd, ha, hnum, hl⟩ := nodeB_parts h.1
    obtain ⟨g1, _⟩ := numbered_parts hnum
    unfold nearT
    rw [Bool.and_eq_true]
    refine ⟨?_, nears_of k p args 0 v d h.2 h0 h1 hd⟩
    by_cases hk : k = 1
    · have := g1 hk
      simp [hk]
      omega
    · simp [hk]
theorem nears_of (k p : Int) : ∀ (ts : List Tm) (i : Nat) (v d : Int), allTs k p v d i ts = true → 0 ≤ v → v ≤ d → d ≤ 200 → nearTs ts = true
  | [], _, _, _, _, _, _, _ => rfl
  | t :: r, i, v, d, h, h0, h1, h2 => by
    unfold allTs at h
    rw [Bool.and_eq_true] at h
    unfold nearTs
    rw [Bool.and_eq_true]
    have hdl := deepI_le k i
    refine ⟨?_, nears_of k p r (i + 1) v d h.2 h0 h1 h2⟩
    have ht := h.1
    rw [wrapI (by omega) (by omega), wrapI (by omega) (by omega)] at ht
    exact near_of p t _ _ ht (by omega) (by omega)
end
theorem numbered_mono {k n : Int} {s : ByteArray} {v v' : Int} (hv : v ≤ v') (h : numberedB k n s v = true) : numberedB k n s v' = true := by
  unfold numberedB at h ⊢
  split
  · rename_i hk
    rw [if_pos hk] at h
    simp only [Bool.and_eq_true, decide_eq_true_eq] at h ⊢
    exact ⟨h.1, by omega, h.2.2⟩
  · rename_i hk
    rw [if_neg hk] at h
    exact h
theorem leveled_mono {k : Int} {ls : List Lv} {p p' : Int} (hp : p ≤ p') (h : leveledB k ls p = true) : leveledB k ls p' = true := by
  unfold leveledB at h ⊢
  simp only [Bool.and_eq_true, Bool.not_eq_true'] at h ⊢
  refine ⟨h.1, ?_⟩
  rw [List.any_eq_false] at h ⊢
  intro l hl hw
  refine h.2 l hl ?_
  unfold lvWrong at hw ⊢
  rw [Bool.or_eq_true] at hw ⊢
  rcases hw with hw | hw
  · exact .inl hw
  · refine .inr (decide_eq_true ?_)
    have := of_decide_eq_true hw
    omega
mutual
theorem all_mono (p p' : Int) (hp : p ≤ p') : ∀ (t : Tm) (v v' d : Int), allT p v d t = true → 0 ≤ v → v ≤ v' → v' ≤ 1099511627776 + d → 0 ≤ d → allT p' v' d t = true
  | .mk k n s ls args, v, v', d, h, h0, h1, h2, h3 => by
    unfold allT at h ⊢
    rw [Bool.and_eq_true] at h ⊢
    obtain ⟨g1, g2, hd, ha, hnum, hl⟩ := nodeB_parts h.1
    refine ⟨?_, alls_mono k p p' hp args 0 v v' d h.2 h0 h1 h2 h3 hd⟩
    unfold nodeB
    simp only [Bool.and_eq_true, Bool.not_eq_true', decide_eq_false_iff_not, decide_eq_true_eq]
    exact ⟨by omega, by omega, by omega, ha, numbered_mono h1 hnum, leveled_mono hp hl⟩
theorem alls_mono (k p p' : Int) (hp : p ≤ p') : ∀ (ts : List Tm) (i : Nat) (v v' d : Int), allTs k p v d i ts = true → 0 ≤ v → v ≤ v' → v' ≤ 1099511627776 + d → 0 ≤ d → d ≤ 200 → allTs k p' v' d i ts = true
  | [], _, _, _, _, _, _, _, _, _, _ => by simp [allTs]
  | t :: r, i, v, v', d, h, h0, h1, h2, h3, h4 => by
    unfold allTs at h ⊢
    rw [Bool.and_eq_true] at h ⊢
    have hdl := deepI_le k i
    refine ⟨?_, alls_mono k p p' hp r (i + 1) v v' d h.2 h0 h1 h2 h3 h4⟩
    have ht := h.1
    rw [wrapI (by omega) (by omega), wrapI (by omega) (by omega)] at ht ⊢
    exact all_mono p p' hp t _ _ _ ht (by omega) (by omega) (by omega) (by omega)
end
/-- A closed term has bytes. -/
theorem code_of_right {p : Int} {t : Tm} (h : rightB p 0 t = true) : codeB t = true := by
  have h' := h
  unfold rightB at h'
  simp only [Bool.and_eq_true, decide_eq_true_eq] at h'
  obtain ⟨h1, h2, _, _, h5, h6⟩ := h'
  unfold codeB rightB
  simp only [Bool.and_eq_true, decide_eq_true_eq]
  exact ⟨⟨by omega, by omega, by omega, by omega, h5, all_mono p 4 h2 t 0 _ 0 h6 (by omega) (by omega) (by omega) (by omega)⟩, near_of p t 0 0 h6 (by omega) (by omega)⟩
end Go.Proofs.YtmkpiekbpakigaaGreatDoor
end
section
set_option linter.unusedVariables false
set_option linter.unusedSimpArgs false
namespace Go.Proofs.YtmkpiekbpakigaaGreatDoor
open Go.RowKit Go.Proofs.Base Go.Proofs.Sym
/-- Bytes, or none. -/
def optRes : Bool → List Nat → LRes
  | true, ys => { v := .tup [.one (.row 0), .one (.v (.bool true))], m := [(0, .own 5 1 ys.length (bc ys))], k := 1 }
  | false, _ => { v := .tup [.one (.v (.slice none 0 0)), .one (.v (.bool false))], m := [], k := 0 }
theorem Term_lc (t : TT) : LCall Tryz.prog 11 [.one (.v t.val)] [] 0 (fun w => ML w ∧ TTIn w t) (fun _ : Unit => True) (fun _ => optRes (codeB t.tm) (putT t.tm)) := by
  have hr := right68_pc t
  have hcode := @code_ok t.tm
  have hput := fun h1 h2 => put_lc t 0 [] rfl h1 h2
  obtain ⟨b, hb⟩ : ∃ b, codeB t.tm = b := ⟨_, rfl⟩
  rw [hb] at hr hcode ⊢
  have hup : Up fun w => ML w ∧ TTIn w t := ML.up.and (TTIn.upS _)
  obtain ⟨Y, hY⟩ : ∃ Y, putT t.tm = Y := ⟨_, rfl⟩
  rw [hY] at hput ⊢
  obtain ⟨W, hW⟩ : ∃ W, wT t.tm = W := ⟨_, rfl⟩
  obtain ⟨O, hO⟩ : ∃ O, PutOk t.tm = O := ⟨_, rfl⟩
  rw [hW, hO] at hput hcode
  obtain ⟨k, n, s, la, lc, ls, aa, ac, us⟩ := t
  refine lcall_of tabOk 9 [.tmp 2, .tmp 3] Tryz.func11 rfl rfl (by kernel_rfl) rfl _ (Nat.le_of_ble_eq_true rfl) hup ?_
  refine svc_ok tabOk [] _ _ _ ?_
  refine callVC_plain hr (fun _ => rfl) (fun w h => h.1) ?_
  rintro r rfl
  cases b with
  | false =>
    refine ⟨_, rfl, (), trivial, rfl, ?_⟩
    exact ent_ren [] rfl rfl rfl rfl (Nat.zero_le _) ⟨⟨_, rfl, rfl⟩, trivial⟩ trivial ⟨⟨Up.true, fun _ _ => trivial⟩, trivial⟩
  | true =>
    obtain ⟨h1, h2, _⟩ := hcode rfl
    refine callVC_fresh 5 1 [.one (.row 1), ttA (TT.mk k n s la lc ls aa ac us)] (fun e he hl => ⟨?_, ?_⟩) ?_
    · show [e.rv 1, _] = _
      rw [show e.rv 1 = Value.slice none 0 0 from he]
      rfl
    · intro x hx
      rcases List.mem_cons.1 hx with rfl | hx
      · exact Nat.lt_succ_self _
      · exact SV.lt_mono (Nat.le_succ _) (hl x (List.mem_cons_of_mem _ hx))
    refine callVC_lend [1] (hput (by omega) h1) rfl ⟨rfl, trivial⟩ rfl rfl (fun w h => h.2.1.2) (fun _ _ => ⟨rfl, rfl⟩) (fun _ _ => ?_)
    refine ⟨_, rfl, (), trivial, rfl, ?_⟩
    exact ent_ren [(0, .own 2)] rfl rfl rfl rfl (Nat.zero_le _) ⟨⟨_, rfl, rfl⟩, trivial⟩ ⟨⟨_, _, rfl, by simp, by simp⟩, trivial⟩ ⟨⟨Up.true, fun _ _ => trivial⟩, trivial⟩
end Go.Proofs.YtmkpiekbpakigaaGreatDoor
end
