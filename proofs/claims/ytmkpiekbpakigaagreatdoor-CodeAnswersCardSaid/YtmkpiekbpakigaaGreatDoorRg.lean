/- A block told as a row; a contract that gives a row, as one that gives a lasting slice. The reference's far (49). -/
import Derived.Test.YtmkpiekbpakigaaGreatDoorRf
set_option linter.unusedVariables false
set_option linter.unusedSimpArgs false
namespace Go.Proofs.Sym
open Go.RowKit Go.Proofs.Base Go.Proofs.Mono
/-- A block known whole, a slice of all of which is in a slot, told as an own row. -/
theorem ent_own {st : St} (t i : Nat) {E : TypeId} (z n : Nat) {cs : List SA} {vs : List Value} (hi : get i st.m = some (.cells E cs)) (hp : plainOf cs = some vs) (hl : vs.length = n * z) (hn : n ≤ 1000000) (ht : get t st.s = some (.one (.sl i 0 n n))) :
    Ent st { st with s := (t, .one (.row st.k)) :: st.s, m := (st.k, .own E z n vs) :: (i, .dead) :: st.m, k := st.k + 1 } := by
  refine ⟨fun cx e a w hS => ?_⟩
  have hm := hS.mem
  have hbk := hm.cells _ _ _ hi
  rw [plainOf_ok e hp] at hbk
  have hik := (hm.sc _ _ hi).1
  have hown : w.ownsRow 0 E z (.slice (some ⟨e.blk i, 0, none⟩) n n) n vs := by
    refine ⟨hl, .inr ⟨e.blk i, n, vs.toArray, rfl, Nat.zero_le _, hbk, Nat.le_refl _, by simp only [maxLen]; omega, by simpa using hl, ?_⟩⟩
    rw [← hl]
    simp
  have hob : oldBlk e st.m (some i) = some (e.blk i) := by simp only [oldBlk, hi, Option.bind_some]; rfl
  have hm2 := hm.grow (v := (some ⟨e.blk i, 0, none⟩, n, n)) (E := E) (z := z) (n := n) (xs := vs) (some i) (fun j hj => by cases hj; exact hik) (w' := w) ⟨rfl, rfl, rfl, Nat.le_refl _, fun _ _ _ => rfl⟩ hown (fun g hg => .inr (by rw [hob]; exact hg))
  have he := e.eqTo_row st.k (some ⟨e.blk i, 0, none⟩, n, n)
  refine ⟨e.setRow st.k (some ⟨e.blk i, 0, none⟩, n, n), hS.base, hS.size, hS.defers, fun j v hj => ?_, hm2⟩
  rcases get_cons hj with ⟨rfl, rfl⟩ | ⟨hne, hj⟩
  · refine ⟨Nat.lt_succ_self _, ?_⟩
    rw [(hS.slots _ _ ht).2]
    show _ = some ((e.setRow st.k (some ⟨e.blk i, 0, none⟩, n, n)).rv st.k)
    rw [Env.setRow_self]
    rfl
  · obtain ⟨h1, h2⟩ := hS.slots j v hj
    exact ⟨SV.lt_mono (Nat.le_succ _) h1, by rw [h2, SV.real_eq he h1]⟩
end Go.Proofs.Sym
namespace Go.Proofs.YtmkpiekbpakigaaGreatDoor
open Go.RowKit Go.Proofs.Base Go.Proofs.Sym

def rowRes (l : List Nat) : LRes := { v := .one (.row 0), m := [(0, .own 5 1 l.length (bc l))], k := 1 }
def cloneR2 (l : List Nat) (r : Value) : Prop := ∃ A c, r = .slice A l.length c ∧ (A = none → l.length = 0 ∧ c = 0)
theorem PCall.of_row {P : Program} {f : FuncId} {args : List SV} {vals : List Value} {l : List Nat} {pre : World → Prop} {X : Type} {ok : X → Prop} (hb : Begins P f) (h : LCall P f args [] 0 pre ok (fun _ => rowRes l)) (ha : ∀ e, args.map (SV.real e) = vals) (hl : ∀ x ∈ args, x.lt 0) : PCall P f vals pre (cloneR2 l) (cloneP l) := by
  refine ⟨hb, cloneP.upS l, fun w H hH hp => ?_⟩
  have hat : ∀ {i g}, ¬ At ⟨fun _ => 0, fun _ => (none, 0, 0)⟩ [] i g := fun ⟨b, hb, _⟩ => by cases hb
  have hm : Mem ⟨w, fun _ => False, H, hH, fun _ h => h.elim, ⟨fun _ => 0, fun _ => (none, 0, 0)⟩, 0, 0, []⟩ ⟨fun _ => 0, fun _ => (none, 0, 0)⟩ [] 0 [pre] w := by
    refine ⟨Fr.refl _ _, fun i hi => (by cases hi), Nat.le_refl _, fun i t cs hi => (by cases hi), fun i E z n xs hi => (by cases hi), fun i b hi => (by cases hi), fun i g hg => absurd hg hat, fun i j g hg => absurd hg hat, fun F hF => ?_, fun F hF => ?_⟩
    · rw [List.mem_singleton.1 hF]
      exact h.up
    · rw [List.mem_singleton.1 hF]
      refine h.up _ _ (hide_ext fun g o hg hn => ⟨hg, fun hx => hn ?_⟩) hp
      rcases hx with hx | ⟨i, hx⟩
      · exact hx
      · exact absurd hx hat
  have hr := (h.run _ _ w rfl rfl rfl hm hl).2
  rw [ha] at hr
  refine hr.mono ?_
  rintro en w' ⟨e', x, _, rfl, hlt, hM⟩
  obtain ⟨B, d, hv, g1, g2, g3, g4⟩ := hM.told_row (fun _ hg => hg) (i := 0) rfl
  refine ⟨_, rfl, ⟨B, d, hv, g1⟩, fun B' d' hB => ?_, hM.fr.below⟩
  have hB : e'.rv 0 = .slice B' l.length d' := hB
  rw [hv] at hB
  cases hB
  exact ⟨g4, g1, g2, g3⟩
set_option maxHeartbeats 2000000 in
theorem far_pc (t : TT) : PCall Tryz.prog 49 [t.val] (fun w => TTIn w t) (fun r => r = .bool (!nearT t.tm)) (fun _ _ => True) := by
  induction hsz : SizeOf.sizeOf t using Nat.strongRecOn generalizing t with
  | _ z ih =>
  obtain ⟨k, n, s, la, lc, ls, aa, ac, us⟩ := t
  subst hsz
  by_cases hal : us.length ≤ 9223372036854775807
  rotate_left
  · refine ⟨enters Tryz.func49 (by kernel_rfl) (by kernel_rfl), fun _ => Up.true, fun w H hH hp => ?_⟩
    have := hp.node
    have h1 := this.hac
    have h2 := this.ham
    simp only [maxLen] at h2
    omega
  have hspec : nearT (TT.mk k n s la lc ls aa ac us).tm = ((!decide (k = 1) || decide (n ≤ 1099511627776)) && nearTs (us.map TT.tm)) := by
    rw [tt_tm, nearT]
  obtain ⟨Z, hZ⟩ : ∃ Z, nearT (TT.mk k n s la lc ls aa ac us).tm = Z := ⟨_, rfl⟩
  rw [hZ] at hspec ⊢
  clear hZ
  refine pcall_of tabOk 25 [.tmp 2] Tryz.func49 rfl rfl (by kernel_rfl) rfl _ (Nat.le_of_ble_eq_true rfl) (TTIn.upS _) (fun _ => Up.true) ?_
  refine svc_ok tabOk [3] _ _ _ ?_
  refine bsplit_i (fun h1 => ?_) (fun h1 => ?_)
  · have h1 : decide (k = 1) = true := h1
    refine bsplit_i (fun h2 => ?_) (fun h2 => ?_)
    · have h2 : decide (1099511627776 < n) = true := h2
      have h2 := of_decide_eq_true h2
      exact ⟨_, rfl, Told.val (by rw [hspec, h1, decide_eq_false (by omega)]; rfl)⟩
    · have h2 : decide (1099511627776 < n) = false := h2
      have h2 := of_decide_eq_false h2
      rw [h1, decide_eq_true (p := n ≤ 1099511627776) (by omega)] at hspec
      have hZ : nearTs (us.map TT.tm) = Z := by rw [hspec]; rfl
      refine Walks.ent (st' := { s := [(1, .one (.p 0 0))], m := [(0, .cells 25 ((TT.mk k n s la lc ls aa ac us).cells.map SA.v))], k := 1, f := [fun w => TTIn w (TT.mk k n s la lc ls aa ac us)] }) (ent_ren [(0, .blk 0)] rfl rfl rfl rfl (Nat.le_of_ble_eq_true rfl) ⟨⟨_, rfl, rfl⟩, trivial⟩ ⟨⟨_, rfl, rfl⟩, trivial⟩ ⟨⟨TTIn.upS _, fun w h => h.1⟩, trivial⟩) ?_
      refine svc_ok tabOk [] _ _ _ ?_
      refine ⟨⟨Nat, fun j => j ≤ us.length ∧ nearTs ((us.map TT.tm).drop j) = Z,
        fun j => { s := [(1, .one (.p 0 0)), (3, .one (.v (.int .i64 (j : Int))))], m := [(0, .cells 25 ((TT.mk k n s la lc ls aa ac us).cells.map SA.v))], k := 1, f := [fun w => TTIn w (TT.mk k n s la lc ls aa ac us)] },
        fun j => us.length - j, ⟨0, ⟨Nat.zero_le _, hZ⟩, ent_ren [(0, .blk 0)] rfl rfl rfl rfl (Nat.le_of_ble_eq_true rfl) ⟨⟨_, rfl, rfl⟩, ⟨_, rfl, rfl⟩, trivial⟩ ⟨⟨_, rfl, rfl⟩, trivial⟩ ⟨⟨TTIn.upS _, fun w h => h.1⟩, trivial⟩⟩, ?_⟩⟩
      rintro j ⟨hj, hA⟩
      refine bsplit_i (fun hlt => ?_) (fun hge => ?_)
      rotate_left
      · have hge : us.length ≤ j := by
          have h : decide ((j : Int) < (us.length : Int)) = false := hge
          have := of_decide_eq_false h
          omega
        exact ⟨_, rfl, Told.val (by rw [← hA, List.drop_eq_nil_of_le (by simpa using hge)]; simp [nearTs])⟩
      have hlt : j < us.length := by
        have h : decide ((j : Int) < (us.length : Int)) = true := hlt
        have := of_decide_eq_true h
        omega
      obtain ⟨u, hu⟩ : ∃ u, us[j]? = some u := ⟨_, List.getElem?_eq_getElem hlt⟩
      have hrec := ih _ (tt_size (List.mem_of_getElem? hu)) u rfl
      have hstep : Z = (nearT u.tm && nearTs ((us.map TT.tm).drop (j + 1))) := by
        rw [← hA, List.drop_eq_getElem_cons (by simpa using hlt), nearTs]
        simp [(List.getElem?_eq_some_iff.1 hu).2]
      obtain ⟨uk, un, uname, ula, ulc, uls, uaa, uac, uus⟩ := u
      obtain ⟨b, hb⟩ : ∃ b, nearT (TT.mk uk un uname ula ulc uls uaa uac uus).tm = b := ⟨_, rfl⟩
      rw [hb] at hrec hstep
      refine ⟨{ n := j }, ⟨rfl, hlt, fun w h => ?_⟩, ?_⟩
      · obtain ⟨⟨a, ha, _⟩, _⟩ := h.1.arg hu
        rw [ha]
        rfl
      refine ⟨{ cs := (TT.mk uk un uname ula ulc uls uaa uac uus).cells }, ⟨TT.cells_one (TT.mk uk un uname ula ulc uls uaa uac uus), rfl, fun w h => ?_⟩, ?_⟩
      · obtain ⟨⟨a, ha, hc⟩, _⟩ := h.1.arg hu
        exact ⟨_, by rw [ha]; rfl, hc⟩
      refine callVC_plain hrec (fun _ => rfl) (fun w h => (h.1.arg hu).2) ?_
      rintro r rfl
      cases b with
      | false => exact ⟨_, rfl, Told.val (by rw [hstep]; rfl)⟩
      | true =>
        refine ⟨j + 1, ⟨hlt, by rw [hstep]; rfl⟩, by simp only; omega, ?_⟩
        exact ent_ren [(0, .blk 0)] rfl rfl rfl rfl (Nat.le_of_ble_eq_true rfl) ⟨⟨_, rfl, rfl⟩, ⟨_, rfl, oneI (wrapI (by omega) (by omega))⟩, trivial⟩ ⟨⟨_, rfl, rfl⟩, trivial⟩ ⟨⟨TTIn.upS _, fun w h => h.2.1⟩, trivial⟩
  · have h1 : decide (k = 1) = false := h1
    rw [h1] at hspec
    have hZ : nearTs (us.map TT.tm) = Z := by rw [hspec]; rfl
    refine Walks.ent (st' := { s := [(1, .one (.p 0 0))], m := [(0, .cells 25 ((TT.mk k n s la lc ls aa ac us).cells.map SA.v))], k := 1, f := [fun w => TTIn w (TT.mk k n s la lc ls aa ac us)] }) (ent_ren [(0, .blk 0)] rfl rfl rfl rfl (Nat.le_of_ble_eq_true rfl) ⟨⟨_, rfl, rfl⟩, trivial⟩ ⟨⟨_, rfl, rfl⟩, trivial⟩ ⟨⟨TTIn.upS _, fun w h => h.1⟩, trivial⟩) ?_
    refine svc_ok tabOk [] _ _ _ ?_
    refine ⟨⟨Nat, fun j => j ≤ us.length ∧ nearTs ((us.map TT.tm).drop j) = Z,
      fun j => { s := [(1, .one (.p 0 0)), (3, .one (.v (.int .i64 (j : Int))))], m := [(0, .cells 25 ((TT.mk k n s la lc ls aa ac us).cells.map SA.v))], k := 1, f := [fun w => TTIn w (TT.mk k n s la lc ls aa ac us)] },
      fun j => us.length - j, ⟨0, ⟨Nat.zero_le _, hZ⟩, ent_ren [(0, .blk 0)] rfl rfl rfl rfl (Nat.le_of_ble_eq_true rfl) ⟨⟨_, rfl, rfl⟩, ⟨_, rfl, rfl⟩, trivial⟩ ⟨⟨_, rfl, rfl⟩, trivial⟩ ⟨⟨TTIn.upS _, fun w h => h.1⟩, trivial⟩⟩, ?_⟩⟩
    rintro j ⟨hj, hA⟩
    refine bsplit_i (fun hlt => ?_) (fun hge => ?_)
    rotate_left
    · have hge : us.length ≤ j := by
        have h : decide ((j : Int) < (us.length : Int)) = false := hge
        have := of_decide_eq_false h
        omega
      exact ⟨_, rfl, Told.val (by rw [← hA, List.drop_eq_nil_of_le (by simpa using hge)]; simp [nearTs])⟩
    have hlt : j < us.length := by
      have h : decide ((j : Int) < (us.length : Int)) = true := hlt
      have := of_decide_eq_true h
      omega
    obtain ⟨u, hu⟩ : ∃ u, us[j]? = some u := ⟨_, List.getElem?_eq_getElem hlt⟩
    have hrec := ih _ (tt_size (List.mem_of_getElem? hu)) u rfl
    have hstep : Z = (nearT u.tm && nearTs ((us.map TT.tm).drop (j + 1))) := by
      rw [← hA, List.drop_eq_getElem_cons (by simpa using hlt), nearTs]
      simp [(List.getElem?_eq_some_iff.1 hu).2]
    obtain ⟨uk, un, uname, ula, ulc, uls, uaa, uac, uus⟩ := u
    obtain ⟨b, hb⟩ : ∃ b, nearT (TT.mk uk un uname ula ulc uls uaa uac uus).tm = b := ⟨_, rfl⟩
    rw [hb] at hrec hstep
    refine ⟨{ n := j }, ⟨rfl, hlt, fun w h => ?_⟩, ?_⟩
    · obtain ⟨⟨a, ha, _⟩, _⟩ := h.1.arg hu
      rw [ha]
      rfl
    refine ⟨{ cs := (TT.mk uk un uname ula ulc uls uaa uac uus).cells }, ⟨TT.cells_one (TT.mk uk un uname ula ulc uls uaa uac uus), rfl, fun w h => ?_⟩, ?_⟩
    · obtain ⟨⟨a, ha, hc⟩, _⟩ := h.1.arg hu
      exact ⟨_, by rw [ha]; rfl, hc⟩
    refine callVC_plain hrec (fun _ => rfl) (fun w h => (h.1.arg hu).2) ?_
    rintro r rfl
    cases b with
    | false => exact ⟨_, rfl, Told.val (by rw [hstep]; rfl)⟩
    | true =>
      refine ⟨j + 1, ⟨hlt, by rw [hstep]; rfl⟩, by simp only; omega, ?_⟩
      exact ent_ren [(0, .blk 0)] rfl rfl rfl rfl (Nat.le_of_ble_eq_true rfl) ⟨⟨_, rfl, rfl⟩, ⟨_, rfl, oneI (wrapI (by omega) (by omega))⟩, trivial⟩ ⟨⟨_, rfl, rfl⟩, trivial⟩ ⟨⟨TTIn.upS _, fun w h => h.2.1⟩, trivial⟩
end Go.Proofs.YtmkpiekbpakigaaGreatDoor
