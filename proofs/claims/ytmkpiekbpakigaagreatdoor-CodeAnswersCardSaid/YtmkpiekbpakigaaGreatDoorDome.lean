/- What the claim needs of Tm3, Tm4, Tm5, SymP, SymQ, Tm6, Wd2, Wd1, Wd3, Tm7, Tm8, in one text. -/
import Derived.RangeFuncNested
import Derived.RangeFuncCalls
import Derived.RangeFuncLeaves
import Derived.Shelf.Abstract
import Derived.WalkKit
import Derived.OwnWalkIn
import Derived.TacticsInMore
import Derived.LoopNIn
import Derived.LoopIn
import Derived.Lib.IndexLaws
import Derived.Test.YtmkpiekbpakigaaGreatDoorShelf
import Derived.Test.YtmkpiekbpakigaaGreatDoorDomd
section
set_option linter.unusedVariables false
set_option linter.unusedSimpArgs false
namespace Go.Proofs.YtmkpiekbpakigaaGreatDoor
open Go.RowKit Go.Proofs.Base Go.Proofs.Sym
mutual
def sameT : TT → TT → Bool
  | .mk k n s _ _ ls _ _ us, .mk k' n' s' _ _ ls' _ _ us' => decide (k = k') && (decide (n = n') && (decide (s = s') && (decide (ls = ls') && sameTs us us')))
def sameTs : List TT → List TT → Bool
  | [], [] => true
  | a :: r, b :: r' => sameT a b && sameTs r r'
  | _, _ => false
end
theorem sameTs_len : ∀ {us bs : List TT}, us.length ≠ bs.length → sameTs us bs = false
  | [], [], h => absurd rfl h
  | [], _ :: _, _ => by unfold sameTs; rfl
  | _ :: _, [], _ => by unfold sameTs; rfl
  | a :: r, b :: r', h => by
    unfold sameTs
    rw [sameTs_len (fun e => h (by simp [e])), Bool.and_false]
theorem lv_eq (a b : Lv) : (decide (a.b = b.b) && (decide (a.p0 = b.p0) && (decide (a.p1 = b.p1) && (decide (a.p2 = b.p2) && (decide (a.p3 = b.p3) && true))))) = decide (a = b) := by
  obtain ⟨a0, a1, a2, a3, a4⟩ := a
  obtain ⟨b0, b1, b2, b3, b4⟩ := b
  rw [Bool.eq_iff_iff]
  simp
def samePre (a b : TT) (w : World) : Prop := TTIn w a ∧ TTIn w b
theorem samePre.up (a b : TT) : Up (samePre a b) := (TTIn.upS a).and (TTIn.upS b)
section
variable (k n : Int) (s : ByteArray) (la : Option Addr) (lc : Nat) (ls : List Lv) (aa : Option Addr) (ac : Nat) (us : List TT) (k' n' : Int) (s' : ByteArray) (la' : Option Addr) (lc' : Nat) (ls' : List Lv) (aa' : Option Addr) (ac' : Nat) (us' : List TT)
def sameM : List (Nat × LB) := [(0, .cells 25 ((TT.mk k n s la lc ls aa ac us).cells.map SA.v)), (1, .cells 25 ((TT.mk k' n' s' la' lc' ls' aa' ac' us').cells.map SA.v))]
set_option maxHeartbeats 4000000 in
theorem same_step (ih : ∀ a b, a ∈ us → PCall Tryz.prog 39 [a.val, b.val] (samePre a b) (fun r => r = .bool (sameT a b)) (fun _ _ => True)) (hla : us.length ≤ 9223372036854775807) (hll : ls.length ≤ 9223372036854775807) :
    PCall Tryz.prog 39 [(TT.mk k n s la lc ls aa ac us).val, (TT.mk k' n' s' la' lc' ls' aa' ac' us').val] (samePre (TT.mk k n s la lc ls aa ac us) (TT.mk k' n' s' la' lc' ls' aa' ac' us'))
      (fun r => r = .bool (sameT (TT.mk k n s la lc ls aa ac us) (TT.mk k' n' s' la' lc' ls' aa' ac' us'))) (fun _ _ => True) := by
  have hspec : sameT (TT.mk k n s la lc ls aa ac us) (TT.mk k' n' s' la' lc' ls' aa' ac' us') = (decide (k = k') && (decide (n = n') && (decide (s = s') && (decide (ls = ls') && sameTs us us')))) := by rw [sameT]
  rw [hspec]
  refine pcall_of tabOk 81 [.tmp 4] Tryz.func39 rfl rfl (by kernel_rfl) rfl _ (Nat.le_of_ble_eq_true rfl) (samePre.up _ _) (fun _ => Up.true) ?_
  refine svc_ok tabOk [] _ _ _ ?_
  refine bsplit_i (fun h => ?_) (fun h => ?_)
  · have h : (!decide (k = k')) = true := h
    exact ⟨_, rfl, Told.val (by simp at h; simp [h])⟩
  have h1 : (!decide (k = k')) = false := h
  refine bsplit_i (fun h => ?_) (fun h => ?_)
  · have h : (!decide (n = n')) = true := h
    exact ⟨_, rfl, Told.val (by simp at h; simp [h])⟩
  have h2 : (!decide (n = n')) = false := h
  refine bsplit_i (fun h => ?_) (fun h => ?_)
  · have h : (!decide (s = s')) = true := h
    exact ⟨_, rfl, Told.val (by simp at h; simp [h])⟩
  have h3 : (!decide (s = s')) = false := h
  refine bsplit_i (fun h => ?_) (fun h => ?_)
  · have h : (!decide ((ls.length : Int) = (ls'.length : Int))) = true := h
    have h : ls.length ≠ ls'.length := by simp at h; omega
    refine ⟨_, rfl, Told.val ?_⟩
    have : ls ≠ ls' := fun e => h (by rw [e])
    simp [this]
  have h4 : ls.length = ls'.length := by
    have h : (!decide ((ls.length : Int) = (ls'.length : Int))) = false := h
    simp at h
    omega
  refine bsplit_i (fun h => ?_) (fun h => ?_)
  · have h : (!decide ((us.length : Int) = (us'.length : Int))) = true := h
    have h : us.length ≠ us'.length := by simp at h; omega
    exact ⟨_, rfl, Told.val (by rw [sameTs_len h]; simp)⟩
  have h5 : us.length = us'.length := by
    have h : (!decide ((us.length : Int) = (us'.length : Int))) = false := h
    simp at h
    omega
  simp only [Bool.not_eq_false', decide_eq_true_eq] at h1 h2 h3
  refine ⟨⟨Nat, fun j => j ≤ ls.length ∧ ls.take j = ls'.take j,
    fun j => { s := [(2, .one (.p 0 0)), (3, .one (.p 1 0)), (5, .one (.v (.int .i64 (j : Int))))], m := sameM k n s la lc ls aa ac us k' n' s' la' lc' ls' aa' ac' us', k := 2, f := [samePre (TT.mk k n s la lc ls aa ac us) (TT.mk k' n' s' la' lc' ls' aa' ac' us')] },
    fun j => ls.length - j, ⟨0, ⟨Nat.zero_le _, rfl⟩, ?_⟩, ?_⟩⟩
  · refine ent_ren [(0, .blk 0), (1, .blk 1)] rfl rfl rfl rfl (Nat.zero_le _) ?_ ?_ ?_
    · exact ⟨⟨_, rfl, rfl⟩, ⟨_, rfl, rfl⟩, ⟨_, rfl, rfl⟩, trivial⟩
    · exact ⟨⟨_, rfl, rfl⟩, ⟨_, rfl, rfl⟩, trivial⟩
    · exact ⟨⟨samePre.up _ _, fun w h => h.1⟩, trivial⟩
  rintro j ⟨hj, hpre⟩
  refine bsplit_i (fun hlt => ?_) (fun hge => ?_)
  · have hlt : j < ls.length := by
      have h : decide ((j : Int) < (ls.length : Int)) = true := hlt
      have := of_decide_eq_true h
      omega
    obtain ⟨x, hx⟩ : ∃ x, ls[j]? = some x := ⟨_, List.getElem?_eq_getElem hlt⟩
    obtain ⟨y, hy⟩ : ∃ y, ls'[j]? = some y := ⟨_, List.getElem?_eq_getElem (by omega)⟩
    refine .inl ⟨11, [0, 1, 0, 7, 15, 0, 32, 0, 224, 480, 1023], fun vs i => match i with
      | 3 => { c := { n := j } }
      | 4 => { c := { cs := lvCells x } }
      | 8 => { c := { n := j } }
      | 9 => { c := { cs := lvCells y } }
      | _ => {}, by kernel_rfl, rfl, by kernel_rfl, by kernel_rfl, by kernel_rfl, by decide, fun vals => ?_⟩
    refine ⟨fun _ => ⟨rfl, hlt, fun w h => ?_⟩, ?_⟩
    · obtain ⟨a, ha, _⟩ := lvRow_at h.1.1.node.hls hx
      rw [ha]; rfl
    refine ⟨fun _ => ⟨lvCells_one x, rfl, fun w h => ?_⟩, ?_⟩
    · obtain ⟨a, ha, hc⟩ := lvRow_at h.1.1.node.hls hx
      exact ⟨_, by rw [ha]; rfl, hc⟩
    refine ⟨fun _ => ⟨rfl, by show j < ls'.length; omega, fun w h => ?_⟩, ?_⟩
    · obtain ⟨a, ha, _⟩ := lvRow_at h.1.2.node.hls hy
      rw [ha]; rfl
    refine ⟨fun _ => ⟨lvCells_one y, rfl, fun w h => ?_⟩, ?_⟩
    · obtain ⟨a, ha, hc⟩ := lvRow_at h.1.2.node.hls hy
      exact ⟨_, by rw [ha]; rfl, hc⟩
    intro _
    refine bsplit_i (fun h => ?_) (fun h => ?_)
    · have h : (!(decide (x.b = y.b) && (decide (x.p0 = y.p0) && (decide (x.p1 = y.p1) && (decide (x.p2 = y.p2) && (decide (x.p3 = y.p3) && true)))))) = true := h
      rw [lv_eq] at h
      have hne : ls ≠ ls' := fun e => by
        rw [e, hy] at hx
        cases hx
        simp at h
      exact ⟨_, rfl, Told.val (by simp [hne])⟩
    · have h : (!(decide (x.b = y.b) && (decide (x.p0 = y.p0) && (decide (x.p1 = y.p1) && (decide (x.p2 = y.p2) && (decide (x.p3 = y.p3) && true)))))) = false := h
      rw [lv_eq] at h
      simp only [Bool.not_eq_false', decide_eq_true_eq] at h
      refine ⟨j + 1, ⟨hlt, by rw [List.take_add_one, List.take_add_one, hpre, hx, hy, h]⟩, by simp only; omega, ?_⟩
      refine ent_ren [(0, .blk 0), (1, .blk 1)] rfl rfl rfl rfl (Nat.zero_le _) ?_ ?_ ?_
      · exact ⟨⟨_, rfl, rfl⟩, ⟨_, rfl, rfl⟩, ⟨_, rfl, oneI (wrapI (by omega) (by omega))⟩, trivial⟩
      · exact ⟨⟨_, rfl, rfl⟩, ⟨_, rfl, rfl⟩, trivial⟩
      · exact ⟨⟨samePre.up _ _, fun w h => h.1⟩, trivial⟩
  have hlev : ls = ls' := by
    have hge : ls.length ≤ j := by
      have h : decide ((j : Int) < (ls.length : Int)) = false := hge
      have := of_decide_eq_false h
      omega
    rw [List.take_of_length_le hge, List.take_of_length_le (by omega)] at hpre
    exact hpre
  refine ⟨⟨Nat, fun j => j ≤ us.length ∧ sameTs (us.drop j) (us'.drop j) = sameTs us us',
    fun j => { s := [(2, .one (.p 0 0)), (3, .one (.p 1 0)), (6, .one (.v (.int .i64 (j : Int))))], m := sameM k n s la lc ls aa ac us k' n' s' la' lc' ls' aa' ac' us', k := 2, f := [samePre (TT.mk k n s la lc ls aa ac us) (TT.mk k' n' s' la' lc' ls' aa' ac' us')] },
    fun j => us.length - j, ⟨0, ⟨Nat.zero_le _, rfl⟩, ?_⟩, ?_⟩⟩
  · refine ent_ren [(0, .blk 0), (1, .blk 1)] rfl rfl rfl rfl (Nat.zero_le _) ?_ ?_ ?_
    · exact ⟨⟨_, rfl, rfl⟩, ⟨_, rfl, rfl⟩, ⟨_, rfl, rfl⟩, trivial⟩
    · exact ⟨⟨_, rfl, rfl⟩, ⟨_, rfl, rfl⟩, trivial⟩
    · exact ⟨⟨samePre.up _ _, fun w h => h.1⟩, trivial⟩
  rintro q ⟨hq, hsame⟩
  refine bsplit_i (fun hlt => ?_) (fun hge => ?_)
  · have hlt : q < us.length := by
      have h : decide ((q : Int) < (us.length : Int)) = true := hlt
      have := of_decide_eq_true h
      omega
    obtain ⟨x, hx⟩ : ∃ x, us[q]? = some x := ⟨_, List.getElem?_eq_getElem hlt⟩
    obtain ⟨y, hy⟩ : ∃ y, us'[q]? = some y := ⟨_, List.getElem?_eq_getElem (by omega)⟩
    have hrec := ih x y (List.mem_of_getElem? hx)
    have hstep : sameTs us us' = (sameT x y && sameTs (us.drop (q + 1)) (us'.drop (q + 1))) := by
      rw [← hsame, List.drop_eq_getElem_cons hlt, List.drop_eq_getElem_cons (by omega : q < us'.length), (List.getElem?_eq_some_iff.1 hx).2, (List.getElem?_eq_some_iff.1 hy).2]
      conv => lhs; unfold sameTs
    obtain ⟨xk, xn, xs, xla, xlc, xls, xaa, xac, xas⟩ := x
    obtain ⟨yk, yn, ys, yla, ylc, yls, yaa, yac, yas⟩ := y
    obtain ⟨r, hr⟩ : ∃ r, sameT (.mk xk xn xs xla xlc xls xaa xac xas) (.mk yk yn ys yla ylc yls yaa yac yas) = r := ⟨_, rfl⟩
    rw [hr] at hrec hstep
    refine .inl ⟨12, [0, 1, 0, 7, 15, 0, 32, 0, 224, 480, 1023, 2047], fun vs i => match i with
      | 3 => { c := { n := q } }
      | 4 => { c := { cs := (TT.mk xk xn xs xla xlc xls xaa xac xas).cells } }
      | 8 => { c := { n := q } }
      | 9 => { c := { cs := (TT.mk yk yn ys yla ylc yls yaa yac yas).cells } }
      | 10 => { pre := samePre (.mk xk xn xs xla xlc xls xaa xac xas) (.mk yk yn ys yla ylc yls yaa yac yas), R := fun u => u = .bool r, nf := fun _ => .bool r }
      | _ => {}, by kernel_rfl, rfl, by kernel_rfl, by kernel_rfl, by kernel_rfl, by decide, fun vals => ?_⟩
    refine ⟨fun _ => ⟨rfl, hlt, fun w h => ?_⟩, ?_⟩
    · obtain ⟨⟨a, ha, _⟩, _⟩ := h.1.1.arg hx
      rw [ha]; rfl
    refine ⟨fun _ => ⟨TT.cells_one (.mk xk xn xs xla xlc xls xaa xac xas), rfl, fun w h => ?_⟩, ?_⟩
    · obtain ⟨⟨a, ha, hc⟩, _⟩ := h.1.1.arg hx
      exact ⟨_, by rw [ha]; rfl, hc⟩
    refine ⟨fun _ => ⟨rfl, by show q < us'.length; omega, fun w h => ?_⟩, ?_⟩
    · obtain ⟨⟨a, ha, _⟩, _⟩ := h.1.2.arg hy
      rw [ha]; rfl
    refine ⟨fun _ => ⟨TT.cells_one (.mk yk yn ys yla ylc yls yaa yac yas), rfl, fun w h => ?_⟩, ?_⟩
    · obtain ⟨⟨a, ha, hc⟩, _⟩ := h.1.2.arg hy
      exact ⟨_, by rw [ha]; rfl, hc⟩
    refine ⟨fun _ => ⟨hrec, fun w h => ⟨(h.1.1.arg hx).2, (h.1.2.arg hy).2⟩, fun _ h => h⟩, ?_⟩
    intro _
    cases r with
    | false => exact ⟨_, rfl, Told.val (by rw [hstep]; simp)⟩
    | true =>
      rw [Bool.true_and] at hstep
      refine ⟨q + 1, ⟨hlt, hstep.symm⟩, by simp only; omega, ?_⟩
      refine ent_ren [(0, .blk 0), (1, .blk 1)] rfl rfl rfl rfl (Nat.zero_le _) ?_ ?_ ?_
      · exact ⟨⟨_, rfl, rfl⟩, ⟨_, rfl, rfl⟩, ⟨_, rfl, oneI (wrapI (by omega) (by omega))⟩, trivial⟩
      · exact ⟨⟨_, rfl, rfl⟩, ⟨_, rfl, rfl⟩, trivial⟩
      · exact ⟨⟨samePre.up _ _, fun w h => h.2.1⟩, trivial⟩
  · have hge : us.length ≤ q := by
      have h : decide ((q : Int) < (us.length : Int)) = false := hge
      have := of_decide_eq_false h
      omega
    have hend : sameTs us us' = true := by
      rw [← hsame, List.drop_eq_nil_of_le hge, List.drop_eq_nil_of_le (by omega)]
      unfold sameTs
      rfl
    exact ⟨_, rfl, Told.val (by rw [hend]; simp [h1, h2, h3, hlev])⟩
end
theorem same_pc (a b : TT) : PCall Tryz.prog 39 [a.val, b.val] (samePre a b) (fun r => r = .bool (sameT a b)) (fun _ _ => True) := by
  induction hsz : SizeOf.sizeOf a using Nat.strongRecOn generalizing a b with
  | _ z ih =>
  obtain ⟨k, n, s, la, lc, ls, aa, ac, us⟩ := a
  obtain ⟨k', n', s', la', lc', ls', aa', ac', us'⟩ := b
  subst hsz
  by_cases hla : us.length ≤ 9223372036854775807
  rotate_left
  · refine ⟨enters Tryz.func39 (by kernel_rfl) (by kernel_rfl), fun _ => Up.true, fun w H hH hp => ?_⟩
    have := hp.1.node
    have h1 := this.hac
    have h2 := this.ham
    simp only [maxLen] at h2
    omega
  by_cases hll : ls.length ≤ 9223372036854775807
  rotate_left
  · refine ⟨enters Tryz.func39 (by kernel_rfl) (by kernel_rfl), fun _ => Up.true, fun w H hH hp => ?_⟩
    have := hp.1.node
    have h1 := this.hlc
    have h2 := this.hlm
    simp only [maxLen] at h2
    omega
  exact same_step k n s la lc ls aa ac us k' n' s' la' lc' ls' aa' ac' us' (fun a b ha => ih _ (tt_size ha) a b rfl) hla hll
end Go.Proofs.YtmkpiekbpakigaaGreatDoor
end
section
set_option linter.unusedVariables false
set_option linter.unusedSimpArgs false
namespace Go.Proofs.YtmkpiekbpakigaaGreatDoor
open Go.RowKit Go.Proofs.Base Go.Proofs.Sym
def formsL : List Int := [0, 0, 0, 0, 0, -1, 0, 0, -1, 0, 1, -1, 0, 4, -1, 2, 0, -1, 2, 0, 1, 2, 0, 1, 3, 0, 2, 1, 0, -1]
def formsVal : Value := .agg (formsL.map (Value.int .i64)).toArray
theorem forms_pc : PCall Tryz.prog 133 [] (fun _ => True) (fun r => r = formsVal) (fun _ _ => True) := by
  refine pcall_of tabOk 11 [.cell 0 159] Tryz.func133 rfl rfl (by kernel_rfl) rfl _ (Nat.le_of_ble_eq_true rfl) Up.true (fun _ => Up.true) ?_
  refine svc_ok tabOk [] _ _ _ ?_
  exact ⟨_, rfl, ⟨fun _ _ _ _ _ => ⟨rfl, trivial⟩⟩⟩
/-- In which of the Args a variable is bound. -/
def boundOfK (k : Int) : Int := if k = 6 ∨ k = 7 then 1 else if k = 8 then 2 else -1
def deepI (k a : Int) : Int := if 1 ≤ k ∧ k ≤ 9 ∧ boundOfK k = a then 1 else 0
theorem deeper_pc (k a : Int) : PCall Tryz.prog 136 [.int .i64 k, .int .i64 a] (fun _ => True) (fun r => r = .int .i64 (deepI k a)) (fun _ _ => True) := by
  by_cases hk : 1 ≤ k ∧ k ≤ 9
  · have hkk : k = 1 ∨ k = 2 ∨ k = 3 ∨ k = 4 ∨ k = 5 ∨ k = 6 ∨ k = 7 ∨ k = 8 ∨ k = 9 := by omega
    have fin : ∀ (b : Int), boundOfK k = b → deepI k a = if b = a then 1 else 0 := fun b hb => by
      unfold deepI
      rw [hb]
      simp [hk]
    rcases hkk with rfl | rfl | rfl | rfl | rfl | rfl | rfl | rfl | rfl
    all_goals
      have fin := fin _ rfl
      refine pcall_of tabOk 19 [.tmp 4] Tryz.func136 rfl rfl (by kernel_rfl) rfl _ (Nat.le_of_ble_eq_true rfl) Up.true (fun _ => Up.true) ?_
      refine svc_ok tabOk [] _ _ _ ?_
      refine callVC_plain forms_pc (fun _ => rfl) (fun _ _ => trivial) ?_
      rintro r rfl
    · refine ⟨{ n := 1 }, ⟨rfl, by decide, rfl⟩, ?_⟩
      refine bsplit_i (fun h => ?_) (fun h => ?_)
      · have h : decide ((-1 : Int) = a) = true := h
        exact ⟨_, rfl, Told.val (by rw [fin]; simp at h; simp [boundOfK, h])⟩
      · have h : decide ((-1 : Int) = a) = false := h
        exact ⟨_, rfl, Told.val (by rw [fin]; simp at h; simp [boundOfK, h])⟩
    · refine ⟨{ n := 2 }, ⟨rfl, by decide, rfl⟩, ?_⟩
      refine bsplit_i (fun h => ?_) (fun h => ?_)
      · have h : decide ((-1 : Int) = a) = true := h
        exact ⟨_, rfl, Told.val (by rw [fin]; simp at h; simp [boundOfK, h])⟩
      · have h : decide ((-1 : Int) = a) = false := h
        exact ⟨_, rfl, Told.val (by rw [fin]; simp at h; simp [boundOfK, h])⟩
    · refine ⟨{ n := 3 }, ⟨rfl, by decide, rfl⟩, ?_⟩
      refine bsplit_i (fun h => ?_) (fun h => ?_)
      · have h : decide ((-1 : Int) = a) = true := h
        exact ⟨_, rfl, Told.val (by rw [fin]; simp at h; simp [boundOfK, h])⟩
      · have h : decide ((-1 : Int) = a) = false := h
        exact ⟨_, rfl, Told.val (by rw [fin]; simp at h; simp [boundOfK, h])⟩
    · refine ⟨{ n := 4 }, ⟨rfl, by decide, rfl⟩, ?_⟩
      refine bsplit_i (fun h => ?_) (fun h => ?_)
      · have h : decide ((-1 : Int) = a) = true := h
        exact ⟨_, rfl, Told.val (by rw [fin]; simp at h; simp [boundOfK, h])⟩
      · have h : decide ((-1 : Int) = a) = false := h
        exact ⟨_, rfl, Told.val (by rw [fin]; simp at h; simp [boundOfK, h])⟩
    · refine ⟨{ n := 5 }, ⟨rfl, by decide, rfl⟩, ?_⟩
      refine bsplit_i (fun h => ?_) (fun h => ?_)
      · have h : decide ((-1 : Int) = a) = true := h
        exact ⟨_, rfl, Told.val (by rw [fin]; simp at h; simp [boundOfK, h])⟩
      · have h : decide ((-1 : Int) = a) = false := h
        exact ⟨_, rfl, Told.val (by rw [fin]; simp at h; simp [boundOfK, h])⟩
    · refine ⟨{ n := 6 }, ⟨rfl, by decide, rfl⟩, ?_⟩
      refine bsplit_i (fun h => ?_) (fun h => ?_)
      · have h : decide ((1 : Int) = a) = true := h
        exact ⟨_, rfl, Told.val (by rw [fin]; simp at h; simp [boundOfK, h])⟩
      · have h : decide ((1 : Int) = a) = false := h
        exact ⟨_, rfl, Told.val (by rw [fin]; simp at h; simp [boundOfK, h])⟩
    · refine ⟨{ n := 7 }, ⟨rfl, by decide, rfl⟩, ?_⟩
      refine bsplit_i (fun h => ?_) (fun h => ?_)
      · have h : decide ((1 : Int) = a) = true := h
        exact ⟨_, rfl, Told.val (by rw [fin]; simp at h; simp [boundOfK, h])⟩
      · have h : decide ((1 : Int) = a) = false := h
        exact ⟨_, rfl, Told.val (by rw [fin]; simp at h; simp [boundOfK, h])⟩
    · refine ⟨{ n := 8 }, ⟨rfl, by decide, rfl⟩, ?_⟩
      refine bsplit_i (fun h => ?_) (fun h => ?_)
      · have h : decide ((2 : Int) = a) = true := h
        exact ⟨_, rfl, Told.val (by rw [fin]; simp at h; simp [boundOfK, h])⟩
      · have h : decide ((2 : Int) = a) = false := h
        exact ⟨_, rfl, Told.val (by rw [fin]; simp at h; simp [boundOfK, h])⟩
    · refine ⟨{ n := 9 }, ⟨rfl, by decide, rfl⟩, ?_⟩
      refine bsplit_i (fun h => ?_) (fun h => ?_)
      · have h : decide ((-1 : Int) = a) = true := h
        exact ⟨_, rfl, Told.val (by rw [fin]; simp at h; simp [boundOfK, h])⟩
      · have h : decide ((-1 : Int) = a) = false := h
        exact ⟨_, rfl, Told.val (by rw [fin]; simp at h; simp [boundOfK, h])⟩
  · have h0 : deepI k a = 0 := by
      unfold deepI
      rw [if_neg (fun h => hk ⟨h.1, h.2.1⟩)]
    rw [h0]
    refine pcall_of tabOk 19 [.tmp 4] Tryz.func136 rfl rfl (by kernel_rfl) rfl _ (Nat.le_of_ble_eq_true rfl) Up.true (fun _ => Up.true) ?_
    refine svc_ok tabOk [] _ _ _ ?_
    refine bsplit_i (fun h1 => ?_) (fun h1 => ?_)
    · have h1 : decide (1 ≤ k) = true := h1
      have h1 := of_decide_eq_true h1
      refine bsplit_i (fun h2 => ?_) (fun h2 => ?_)
      · have h2 : decide (k ≤ 9) = true := h2
        exact absurd ⟨h1, of_decide_eq_true h2⟩ hk
      · exact ⟨_, rfl, Told.val rfl⟩
    · exact ⟨_, rfl, Told.val rfl⟩
/-- Is a level wrong, for so many parameters? -/
def lvWrong (p : Int) (l : Lv) : Bool := !l.right || decide (p < l.width)
theorem leveled1_pc (l : Lv) (p : Int) (ptr : Value) : PCall Tryz.prog 155 [l.val, ptr] (fun w => ∃ a, ptr = .pointer (some a) ∧ w.cell? a = some (.int .i64 p)) (fun r => r = .bool (lvWrong p l)) (fun _ _ => True) := by
  have hup : Up fun w => ∃ a, ptr = .pointer (some a) ∧ w.cell? a = some (.int .i64 p) := Up.ex fun a => (Up.pure _).and (Up.cell _ _)
  have hr := right_pc l
  have hw := width_pc l
  refine pcall_of tabOk 13 [.tmp 3] Tryz.func155 rfl rfl (by kernel_rfl) rfl _ (Nat.le_of_ble_eq_true rfl) hup (fun _ => Up.true) ?_
  refine svc_ok tabOk [] _ _ _ ?_
  obtain ⟨b, hb⟩ : ∃ b, l.right = b := ⟨_, rfl⟩
  rw [hb] at hr
  have hsp : lvWrong p l = (!b || decide (p < l.width)) := by unfold lvWrong; rw [hb]
  rw [hsp]
  cases b with
  | false =>
    refine .inl ⟨10, [0, 1, 3, 7, 15, 31, 15, 127, 255, 511], fun vs i => match i with
      | 1 => { R := fun r => r = .bool false, nf := fun _ => .bool false }
      | _ => {}, by kernel_rfl, rfl, by kernel_rfl, by kernel_rfl, by kernel_rfl, by decide, fun vals => ?_⟩
    refine ⟨fun _ => ⟨hr, fun _ _ => trivial, fun _ h => h⟩, ?_⟩
    intro _
    exact ⟨_, rfl, Told.val rfl⟩
  | true =>
    refine .inl ⟨10, [0, 1, 3, 7, 15, 31, 15, 127, 255, 511], fun vs i => match i with
      | 1 => { R := fun r => r = .bool true, nf := fun _ => .bool true }
      | 5 => { R := fun r => r = .int .i64 l.width, nf := fun _ => .int .i64 l.width }
      | 6 => { c := { v := .int .i64 p } }
      | _ => {}, by kernel_rfl, rfl, by kernel_rfl, by kernel_rfl, by kernel_rfl, by decide, fun vals => ?_⟩
    refine ⟨fun _ => ⟨hr, fun _ _ => trivial, fun _ h => h⟩, ?_⟩
    refine ⟨fun _ => ⟨hw, fun _ _ => trivial, fun _ h => h⟩, ?_⟩
    refine ⟨fun _ w h => ?_, ?_⟩
    · exact h.2.1
    intro _
    exact ⟨_, rfl, Told.val rfl⟩
end Go.Proofs.YtmkpiekbpakigaaGreatDoor
end
section
set_option linter.unusedVariables false
set_option linter.unusedSimpArgs false
namespace Go.Proofs.YtmkpiekbpakigaaGreatDoor
open Go.RowKit Go.Proofs.Base Go.Proofs.Sym
/-- The first wrong level from place i on. -/
def idxW (p : Int) : List Lv → Nat → Int
  | [], _ => -1
  | l :: r, i => if lvWrong p l then (i : Int) else idxW p r (i + 1)
theorem idxW_any (p : Int) : ∀ (ls : List Lv) (i : Nat), decide (0 ≤ idxW p ls i) = ls.any (lvWrong p)
  | [], i => rfl
  | l :: r, i => by
    unfold idxW
    rw [List.any_cons]
    cases lvWrong p l with
    | true => simp
    | false => simpa using idxW_any p r (i + 1)
def lvfPre (A : Option Addr) (ls : List Lv) (ptr : Value) (p : Int) (w : World) : Prop := LvRow w A ls ∧ ∃ a, ptr = .pointer (some a) ∧ w.cell? a = some (.int .i64 p)
theorem lvfPre.up (A : Option Addr) (ls : List Lv) (ptr : Value) (p : Int) : Up (lvfPre A ls ptr p) := (LvRow.up A ls).and (Up.ex fun a => (Up.pure _).and (Up.cell _ _))
theorem lvIndex_pc (A : Option Addr) (ls : List Lv) (c : Nat) (ptr : Value) (p : Int) (hl : ls.length ≤ 9223372036854775807) :
    PCall Tryz.prog 164 [.slice A ls.length c, .func (.func 155) #[] #[ptr]] (lvfPre A ls ptr p) (fun r => r = .int .i64 (idxW p ls 0)) (fun _ _ => True) := by
  refine pcall_of tabOk 19 [.tmp 4] Tryz.func164 rfl rfl (by kernel_rfl) rfl _ (Nat.le_of_ble_eq_true rfl) (lvfPre.up _ _ _ _) (fun _ => Up.true) ?_
  refine svc_ok tabOk [] _ _ _ ?_
  refine ⟨⟨Nat, fun j => j ≤ ls.length ∧ idxW p (ls.drop j) j = idxW p ls 0,
    fun j => { s := [(0, .one (.v (.slice A ls.length c))), (1, .one (.v (.func (.func 155) #[] #[ptr]))), (7, .one (.v (.int .i64 (ls.length : Int)))), (8, .one (.v (.int .i64 (j : Int))))], m := [], k := 0, f := [lvfPre A ls ptr p] },
    fun j => ls.length - j, ⟨0, ⟨Nat.zero_le _, rfl⟩, ?_⟩, ?_⟩⟩
  · exact ent_ren [] rfl rfl rfl rfl (Nat.zero_le _) ⟨⟨_, rfl, rfl⟩, ⟨_, rfl, rfl⟩, ⟨_, rfl, rfl⟩, ⟨_, rfl, rfl⟩, trivial⟩ trivial ⟨⟨lvfPre.up _ _ _ _, fun w h => h.1⟩, trivial⟩
  rintro j ⟨hj, hpre⟩
  refine bsplit_i (fun hlt => ?_) (fun hge => ?_)
  · have hlt : j < ls.length := by
      have h : decide ((j : Int) < (ls.length : Int)) = true := hlt
      have := of_decide_eq_true h
      omega
    obtain ⟨x, hx⟩ : ∃ x, ls[j]? = some x := ⟨_, List.getElem?_eq_getElem hlt⟩
    have hstep : idxW p ls 0 = if lvWrong p x then (j : Int) else idxW p (ls.drop (j + 1)) (j + 1) := by
      rw [← hpre, List.drop_eq_getElem_cons hlt, (List.getElem?_eq_some_iff.1 hx).2, idxW]
    have hc := leveled1_pc x p ptr
    obtain ⟨b, hb⟩ : ∃ b, lvWrong p x = b := ⟨_, rfl⟩
    rw [hb] at hc hstep
    refine ⟨{ n := j }, ⟨rfl, hlt, fun w h => ?_⟩, ?_⟩
    · obtain ⟨a, ha, _⟩ := lvRow_at h.1.1 hx
      rw [ha]; rfl
    refine ⟨{ cs := lvCells x }, ⟨lvCells_one x, rfl, fun w h => ?_⟩, ?_⟩
    · obtain ⟨a, ha, hc⟩ := lvRow_at h.1.1 hx
      exact ⟨_, by rw [ha]; rfl, hc⟩
    cases b with
    | true =>
      refine callVC_plain hc (fun _ => rfl) (fun w h => h.1.2) ?_
      rintro r rfl
      exact ⟨_, rfl, Told.val (by rw [hstep]; rfl)⟩
    | false =>
      refine callVC_plain hc (fun _ => rfl) (fun w h => h.1.2) ?_
      rintro r rfl
      refine ⟨j + 1, ⟨hlt, hstep.symm⟩, by simp only; omega, ?_⟩
      exact ent_ren [] rfl rfl rfl rfl (Nat.zero_le _) ⟨⟨_, rfl, rfl⟩, ⟨_, rfl, rfl⟩, ⟨_, rfl, rfl⟩, ⟨_, rfl, oneI (wrapI (by omega) (by omega))⟩, trivial⟩ trivial ⟨⟨lvfPre.up _ _ _ _, fun w h => h.2.1⟩, trivial⟩
  · have hge : ls.length ≤ j := by
      have h : decide ((j : Int) < (ls.length : Int)) = false := hge
      have := of_decide_eq_false h
      omega
    exact ⟨_, rfl, Told.val (by rw [← hpre, List.drop_eq_nil_of_le hge]; rfl)⟩
theorem lvContains_pc (A : Option Addr) (ls : List Lv) (c : Nat) (ptr : Value) (p : Int) (hl : ls.length ≤ 9223372036854775807) :
    PCall Tryz.prog 156 [.slice A ls.length c, .func (.func 155) #[] #[ptr]] (lvfPre A ls ptr p) (fun r => r = .bool (ls.any (lvWrong p))) (fun _ _ => True) := by
  rw [← idxW_any p ls 0]
  refine pcall_of tabOk 9 [.tmp 4] Tryz.func156 rfl rfl (by kernel_rfl) rfl _ (Nat.le_of_ble_eq_true rfl) (lvfPre.up _ _ _ _) (fun _ => Up.true) ?_
  refine svc_ok tabOk [] _ _ _ ?_
  refine callVC_plain (lvIndex_pc A ls c ptr p hl) (fun _ => rfl) (fun w h => h.1) ?_
  rintro r rfl
  exact ⟨_, rfl, Told.val rfl⟩
end Go.Proofs.YtmkpiekbpakigaaGreatDoor
end
section
set_option linter.unusedVariables false
set_option linter.unusedSimpArgs false
namespace Go.Proofs.Sym
open Go.RowKit Go.Proofs.Base Go.Proofs.Mono
/-- At a call: a nil slice among the arguments, told as an own row that holds nothing. -/
theorem callVC_fresh {P : Program} {f : FuncId} {args : List SV} {st : St} {K : SV → St → Prop} {X : List PanicEntry → St → Prop} (E z : Nat) (args' : List SV)
    (ha : ∀ e : Env, e.rv st.k = .slice none 0 0 → (∀ x ∈ args, x.lt st.k) → args'.map (SV.real e) = args.map (SV.real e) ∧ ∀ x ∈ args', x.lt (st.k + 1))
    (h : CallVC P f args' { st with m := (st.k, .own E z 0 []) :: st.m, k := st.k + 1 } K X) : CallVC P f args st K X := by
  refine ⟨fun cx e w hm hl => ?_⟩
  have hm2 := hm.grow (v := (none, 0, 0)) (E := E) (z := z) (n := 0) (xs := []) none (fun i hi => by cases hi) (w' := w) ⟨rfl, rfl, rfl, Nat.le_refl _, fun _ _ _ => rfl⟩ (World.ownsRow_nil w 0 E z) (fun g hg => by cases hg)
  have he := e.eqTo_row st.k (none, 0, 0)
  obtain ⟨h1, h2⟩ := ha (e.setRow st.k (none, 0, 0)) (Env.setRow_self e st.k _) hl
  obtain ⟨h3, h4⟩ := h.run cx _ w hm2 h2
  refine ⟨h3, ?_⟩
  have e1 : args.map (SV.real (e.setRow st.k (none, 0, 0))) = args.map (SV.real e) := List.map_congr_left fun x hx => SV.real_eq he (hl x hx)
  rw [h1, e1] at h4
  refine h4.mono ?_
  rintro en w' ⟨e', st', h5, h6, h7, h8, h9⟩
  have h5' : e.eqTo st.k e' := he.trans (h5.mono (Nat.le_succ _))
  refine ⟨e', st', h5', Nat.le_trans (Nat.le_succ _) h6, fun t u hu => ?_, h8, h9⟩
  obtain ⟨u0, h10, h11⟩ := h7 t u hu
  refine ⟨u0, h10, fun hlt => ?_⟩
  obtain ⟨h12, h13⟩ := h11 (SV.lt_mono (Nat.le_succ _) hlt)
  exact ⟨h12, by rw [h13, SV.real_eq he hlt]⟩
end Go.Proofs.Sym
end
section
set_option linter.unusedVariables false
set_option linter.unusedSimpArgs false
namespace Go.Proofs.Sym
open Go.RowKit Go.Proofs.Base Go.Proofs.Mono
section
variable {P : Program} {T : Tab} {N : Nat} {ops : Array Oper} {tb C : List Nat} {ds : List (Nat × Dl)} {K : St → Prop} {X : List PanicEntry → St → Prop} {n : Nat} {L : List Nat} {st : St}
/-- One operation of the others is next. -/
structure CStep (P : Program) (T : Tab) (N : Nat) (ops : Array Oper) (tb C : List Nat) (ds : List (Nat × Dl)) (K : St → Prop) (X : List PanicEntry → St → Prop) (n : Nat) (L : List Nat) (st : St) (i : Nat) : Prop where
  ex : ∃ o, ops[i]? = some o ∧ o.guard = none ∧ ∃ sg, sig T (rst N ops tb ds i o st) o = sg ∧ sigK P sg (rst N ops tb ds i o st) (fun v st' => cgo P T N ops tb C ds K X n (i :: L) (({ st' with s := st.s } : St).put N o.dst v)) X
def allC (P : Program) (T : Tab) (N : Nat) (ops : Array Oper) (tb C : List Nat) (ds : List (Nat × Dl)) (K : St → Prop) (X : List PanicEntry → St → Prop) (n : Nat) (L : List Nat) (st : St) : List Nat → Prop
  | [] => True
  | i :: r => CStep P T N ops tb C ds K X n L st i ∧ allC P T N ops tb C ds K X n L st r
theorem cgo_go (st1 : St) (l : List Nat) (he : st = st1) (hn : C.all (fun i => hasN i L) = false) (hr : cready C L tb = l) (hs : stabK T N ops tb ds L st1 ds) (h : allC P T N ops tb C ds K X n L st1 l) : cgo P T N ops tb C ds K X (n + 1) L st := by
  subst he hr
  unfold cgo
  refine ⟨hs, ?_⟩
  rw [hn]
  simp only
  have key : ∀ l, allC P T N ops tb C ds K X n L st l → goAll (fun i => match ops[i]? with
        | none => False
        | some o => match o.guard with
          | some _ => False
          | none => sigK P (sig T (rst N ops tb ds i o st) o) (rst N ops tb ds i o st) (fun v st' => cgo P T N ops tb C ds K X n (i :: L) (({ st' with s := st.s } : St).put N o.dst v)) X) l := by
    intro l
    induction l with
    | nil => intro _; trivial
    | cons i r ih =>
      rintro ⟨⟨o, ho, hg, sg, rfl, hk⟩, hr⟩
      refine ⟨?_, ih hr⟩
      simp only [ho, hg]
      exact hk
  exact key _ h
theorem cgo_end (st1 : St) (he : ({ st with s := selS N ds ++ st.s } : St) = st1) (hn : C.all (fun i => hasN i L) = true) (hs : stabK T N ops tb ds L st ds) (h : K st1) : cgo P T N ops tb C ds K X n L st := by
  subst he
  unfold cgo
  refine ⟨hs, ?_⟩
  rw [hn]
  exact h
theorem CallVC.mono {f : FuncId} {args : List SV} {K K' : SV → St → Prop} {X X' : List PanicEntry → St → Prop} (hK : ∀ v s, K v s → K' v s) (hX : ∀ c s, X c s → X' c s) (h : CallVC P f args st K X) : CallVC P f args st K' X' := by
  refine ⟨fun cx e w hm hl => ?_⟩
  obtain ⟨h1, h2⟩ := h.run cx e w hm hl
  refine ⟨h1, h2.mono ?_⟩
  rintro en w' ⟨e', st', h3, h4, h5, h6, h7, h8⟩
  refine ⟨e', st', h3, h4, h5, h6, h7, ?_⟩
  rcases h8 with ⟨v, h8, h9, h10⟩ | ⟨ch, h8, h9⟩
  · exact .inl ⟨v, h8, h9, hK _ _ h10⟩
  · exact .inr ⟨ch, h8, hX _ _ h9⟩
theorem sigK_mono {sg : Sig} {K K' : SV → St → Prop} {X X' : List PanicEntry → St → Prop} (hK : ∀ v s, K v s → K' v s) (hX : ∀ c s, X c s → X' c s) (h : sigK P sg st K X) : sigK P sg st K' X' := by
  cases sg with
  | bad => exact h
  | det v => exact hK _ _ h
  | new v t cs => exact hK _ _ h
  | pick ob v => obtain ⟨c, h1, h2⟩ := h; exact ⟨c, h1, hK _ _ h2⟩
  | set i t cs => exact hK _ _ h
  | setr ob i E z n xs => exact ⟨h.1, hK _ _ h.2⟩
  | ask R F => exact fun u hu => hK _ _ (h u hu)
  | grow ob old E z n xs => obtain ⟨c, h1, h2⟩ := h; exact ⟨c, h1, hK _ _ h2⟩
  | call f args => exact CallVC.mono hK hX h
  | pan v => exact hX _ _ h
theorem goAll_mono {p q : Nat → Prop} (h : ∀ i, p i → q i) : ∀ {l : List Nat}, goAll p l → goAll q l
  | [], _ => trivial
  | i :: r, hp => ⟨h i hp.1, goAll_mono h hp.2⟩
theorem cgo_mono {K' : St → Prop} (hK : ∀ s, K' s → K s) : ∀ (n : Nat) (L : List Nat) (st : St), cgo P T N ops tb C ds K' X n L st → cgo P T N ops tb C ds K X n L st := by
  intro n
  induction n with
  | zero =>
    intro L st h
    unfold cgo at h ⊢
    refine ⟨h.1, ?_⟩
    have h2 := h.2
    split at h2
    · exact hK _ h2
    · exact h2.elim
  | succ n ih =>
    intro L st h
    unfold cgo at h ⊢
    refine ⟨h.1, ?_⟩
    have h2 := h.2
    split at h2
    · exact hK _ h2
    · refine goAll_mono (fun i hi => ?_) h2
      split at hi
      · exact hi
      · split at hi
        · exact hi
        · exact sigK_mono (fun v s hs => ih _ _ hs) (fun _ _ hx => hx) hi
end
end Go.Proofs.Sym
namespace Go.Proofs.Sym
open Go.RowKit Go.Proofs.Base Go.Proofs.Mono
/-- A walk in two parts: the first one comes to a state told. -/
theorem Walks.cut {P : Program} {N : Nat} {x y : Code} {K : Exit → St → Prop} {st : St} (st1 : St) (h1 : Walks P N x (fun ex st' => match ex with | .normal => Ent st' st1 | ex => K ex st') st) (h2 : Walks P N y K st1) : Walks P N (.seq x y) K st := by
  refine Walks.seq (h1.mono fun ex st' hK => ?_)
  cases ex with
  | normal => exact Walks.ent hK h2
  | _ => exact hK
end Go.Proofs.Sym
namespace Go.Proofs.Sym
open Go.RowKit Go.Proofs.Base Go.Proofs.Mono
/-- At a call: a block known whole, a slice of all of which is among the arguments, told as an own row. -/
theorem callVC_own {P : Program} {f : FuncId} {args : List SV} {st : St} {K : SV → St → Prop} {X : List PanicEntry → St → Prop} (i : Nat) {E : TypeId} (z n : Nat) {cs : List SA} {vs : List Value} (args' : List SV)
    (hi : get i st.m = some (.cells E cs)) (hp : plainOf cs = some vs) (hl : vs.length = n * z) (hn : n ≤ 1000000)
    (ha : ∀ e : Env, e.rv st.k = .slice (some ⟨e.blk i, 0, none⟩) n n → (∀ x ∈ args, x.lt st.k) → args'.map (SV.real e) = args.map (SV.real e) ∧ ∀ x ∈ args', x.lt (st.k + 1))
    (h : CallVC P f args' { st with m := (st.k, .own E z n vs) :: (i, .dead) :: st.m, k := st.k + 1 } K X) : CallVC P f args st K X := by
  refine ⟨fun cx e w hm hl2 => ?_⟩
  have hbk := hm.cells _ _ _ hi
  rw [plainOf_ok e hp] at hbk
  have hik := (hm.sc _ _ hi).1
  have hown : w.ownsRow 0 E z (.slice (some ⟨e.blk i, 0, none⟩) n n) n vs := by
    refine ⟨hl, .inr ⟨e.blk i, n, vs.toArray, rfl, Nat.zero_le _, hbk, Nat.le_refl _, by simp only [maxLen]; omega, by simpa using hl, ?_⟩⟩
    rw [← hl]
    simp
  have hob : oldBlk e st.m (some i) = some (e.blk i) := by simp only [oldBlk, hi, Option.bind_some]; rfl
  have hm2 := hm.grow (v := (some ⟨e.blk i, 0, none⟩, n, n)) (E := E) (z := z) (n := n) (xs := vs) (some i) (fun j hj => by cases hj; exact hik) (w' := w) ⟨rfl, rfl, rfl, Nat.le_refl _, fun _ _ _ => rfl⟩ hown (fun g hg => .inr (by rw [hob]; exact hg))
  have he := e.eqTo_row st.k (some ⟨e.blk i, 0, none⟩, n, n)
  have hbi : (e.setRow st.k (some ⟨e.blk i, 0, none⟩, n, n)).blk i = e.blk i := rfl
  obtain ⟨h1, h2⟩ := ha (e.setRow st.k (some ⟨e.blk i, 0, none⟩, n, n)) (by rw [hbi]; exact Env.setRow_self e st.k _) hl2
  obtain ⟨h3, h4⟩ := h.run cx _ w hm2 h2
  refine ⟨h3, ?_⟩
  have e1 : args.map (SV.real (e.setRow st.k (some ⟨e.blk i, 0, none⟩, n, n))) = args.map (SV.real e) := List.map_congr_left fun x hx => SV.real_eq he (hl2 x hx)
  rw [h1, e1] at h4
  refine h4.mono ?_
  rintro en w' ⟨e', st', h5, h6, h7, h8, h9⟩
  have h5' : e.eqTo st.k e' := he.trans (h5.mono (Nat.le_succ _))
  refine ⟨e', st', h5', Nat.le_trans (Nat.le_succ _) h6, fun t u hu => ?_, h8, h9⟩
  obtain ⟨u0, h10, h11⟩ := h7 t u hu
  refine ⟨u0, h10, fun hlt => ?_⟩
  obtain ⟨h12, h13⟩ := h11 (SV.lt_mono (Nat.le_succ _) hlt)
  exact ⟨h12, by rw [h13, SV.real_eq he hlt]⟩
end Go.Proofs.Sym
end
section
set_option linter.unusedVariables false
set_option linter.unusedSimpArgs false
namespace Go.Proofs.YtmkpiekbpakigaaGreatDoor
open Go.RowKit Go.Proofs.Base Go.Proofs.Sym
/-- How many Args, and how many levels at most, a kind has. -/
def argOf (k : Int) : Int := if k = 5 ∨ k = 6 ∨ k = 7 then 2 else if k = 8 then 3 else if k = 9 then 1 else 0
def levOf (k : Int) : Int := if k = 3 then 1 else if k = 4 then 4 else 0
def formSV (k : Int) : SV := .agg [.v (.int .i64 (argOf k)), .v (.int .i64 (levOf k)), .v (.int .i64 (boundOfK k))]
def leveledB (k : Int) (ls : List Lv) (p : Int) : Bool := !(decide (levOf k < (ls.length : Int)) || (decide (k = 3) && decide ((ls.length : Int) = 0))) && !ls.any (lvWrong p)
theorem form_part (k : Int) (h1 : 1 ≤ k) (h9 : k ≤ 9) (ti : TyI) (hti : ti.agg = true) (hs : ti.size = 3) : partOf ti ((formsL.map (Value.int .i64)).map SA.v) (k.toNat * ti.size) = some (formSV k) := by
  have hkk : k = 1 ∨ k = 2 ∨ k = 3 ∨ k = 4 ∨ k = 5 ∨ k = 6 ∨ k = 7 ∨ k = 8 ∨ k = 9 := by omega
  unfold partOf
  rw [hti, hs]
  rcases hkk with rfl | rfl | rfl | rfl | rfl | rfl | rfl | rfl | rfl <;> rfl
section
variable (k n : Int) (s : ByteArray) (la : Option Addr) (lc : Nat) (ls : List Lv) (aa : Option Addr) (ac : Nat) (us : List TT) (p : Int)
def l6s : List (Nat × SV) := [(4, .one (.v (.bool false))), (3, .one (.p 1 0)), (2, .one (.p 0 0)), (0, .one (.v (TT.mk k n s la lc ls aa ac us).val)), (1, .one (.v (.int .i64 p)))]
def l6m : List (Nat × LB) := [(1, .cells 3 [.v (.int .i64 p)]), (0, .cells 25 ((TT.mk k n s la lc ls aa ac us).cells.map SA.v))]
def l6z : LB := .cells 158 [.v (.int .i64 0), .v (.int .i64 0), .v (.int .i64 0)]
def l6c (k : Int) : LB := .cells 158 [.v (.int .i64 (argOf k)), .v (.int .i64 (levOf k)), .v (.int .i64 (boundOfK k))]
def l6f : List (World → Prop) := [fun w => TTIn w (TT.mk k n s la lc ls aa ac us)]
def l6F : St := { s := [(4, .one (.v (.bool false))), (3, .one (.p 1 0)), (2, .one (.p 0 0)), (5, .one (.p 2 0))], m := [(2, l6c k), (1, .cells 3 [.v (.int .i64 p)]), (0, .cells 25 ((TT.mk k n s la lc ls aa ac us).cells.map SA.v))], k := 3, f := l6f k n s la lc ls aa ac us }
set_option maxHeartbeats 2000000 in
theorem leveled_pc (h1 : 1 ≤ k) (h9 : k ≤ 9) (hll : ls.length ≤ 9223372036854775807) : PCall Tryz.prog 135 [(TT.mk k n s la lc ls aa ac us).val, .int .i64 p] (fun w => TTIn w (TT.mk k n s la lc ls aa ac us)) (fun r => r = .bool (leveledB k ls p)) (fun _ _ => True) := by
  have hcon := fun ptr => lvContains_pc la ls lc ptr p hll
  have hpart := form_part k h1 h9
  have hlt : k.toNat < 10 := by omega
  refine pcall_of tabOk 34 [.tmp 4] Tryz.func135 rfl rfl (by kernel_rfl) rfl _ (Nat.le_of_ble_eq_true rfl) (TTIn.upS _) (fun _ => Up.true) ?_
  refine svc_ok tabOk [2] _ _ _ ?_
  refine .inr ⟨[0, 0, 2, 7, 0, 31], [0, 3, 4, 5], [(1, { dst := some 8, v := .one (.p 0 0), p := none, f := none }), (2, { dst := some 9, v := .one (.v (.int .i64 k)), p := none, f := none })], by kernel_rfl, rfl, by kernel_rfl, by kernel_rfl, rfl, rfl, rfl, rfl, ?_⟩
  refine cgo_mono (K' := fun st' => Ent st' (l6F k n s la lc ls aa ac us p)) (fun st' h => ?_) _ _ _ ?_
  · refine Walks.ent h ?_
    refine svc_ok tabOk [] _ _ _ ?_
    have hsp : ∀ (b1 b2 b3 : Bool), decide (levOf k < (ls.length : Int)) = b1 → decide (k = 3) = b2 → decide ((ls.length : Int) = 0) = b3 → leveledB k ls p = (!(b1 || (b2 && b3)) && !ls.any (lvWrong p)) := fun b1 b2 b3 e1 e2 e3 => by
      unfold leveledB
      rw [e1, e2, e3]
    have fin : ∀ (b3 : Bool), decide ((ls.length : Int) = 0) = b3 → (decide (k = 3) && b3) = false → decide (levOf k < (ls.length : Int)) = false → leveledB k ls p = !ls.any (lvWrong p) := fun b3 e1 e2 e3 => by
      unfold leveledB
      rw [e3, e1, e2]
      rfl
    refine bsplit_i (fun g1 => ?_) (fun g1 => ?_)
    · have g1 : decide (levOf k < (ls.length : Int)) = true := g1
      exact ⟨_, rfl, Told.val (by unfold leveledB; rw [g1]; rfl)⟩
    have g1 : decide (levOf k < (ls.length : Int)) = false := g1
    refine bsplit_i (fun g2 => ?_) (fun g2 => ?_)
    · have g2 : decide (k = 3) = true := g2
      refine bsplit_i (fun g3 => ?_) (fun g3 => ?_)
      · have g3 : decide ((ls.length : Int) = 0) = true := g3
        exact ⟨_, rfl, Told.val (by unfold leveledB; rw [g1, g2, g3]; rfl)⟩
      have g3 : decide ((ls.length : Int) = 0) = false := g3
      refine callVC_blk 1 rfl rfl (fun g => ?_)
      refine callVC_plain (hcon _) (fun _ => rfl) (fun w h => ⟨h.2.1.node.hls, _, rfl, ?_⟩) ?_
      · obtain ⟨a, ha, hc⟩ := h.1 0 _ rfl
        cases ha
        exact hc
      rintro r rfl
      exact ⟨_, rfl, Told.val (by rw [fin _ g3 (by simp) g1])⟩
    · have g2 : decide (k = 3) = false := g2
      refine callVC_blk 1 rfl rfl (fun g => ?_)
      refine callVC_plain (hcon _) (fun _ => rfl) (fun w h => ⟨h.2.1.node.hls, _, rfl, ?_⟩) ?_
      · obtain ⟨a, ha, hc⟩ := h.1 0 _ rfl
        cases ha
        exact hc
      rintro r rfl
      exact ⟨_, rfl, Told.val (by rw [fin _ rfl (by rw [g2]; rfl) g1])⟩
  refine cgo_go { s := l6s k n s la lc ls aa ac us p, m := l6m k n s la lc ls aa ac us p, k := 2, f := l6f k n s la lc ls aa ac us } [0, 4] rfl (by kernel_rfl) (by kernel_rfl) ⟨⟨rfl, rfl⟩, ⟨rfl, rfl⟩, trivial⟩ ⟨?_, ?_, trivial⟩
  · refine ⟨_, rfl, rfl, _, rfl, ?_⟩
    refine callVC_plain forms_pc (fun _ => rfl) (fun _ _ => trivial) ?_
    rintro r rfl
    refine cgo_go { s := (7, .one (.v formsVal)) :: l6s k n s la lc ls aa ac us p, m := l6m k n s la lc ls aa ac us p, k := 2, f := (fun _ => True) :: l6f k n s la lc ls aa ac us } [3, 4] rfl (by kernel_rfl) (by kernel_rfl) ⟨⟨rfl, rfl⟩, ⟨rfl, rfl⟩, trivial⟩ ⟨?_, ?_, trivial⟩
    · refine ⟨_, rfl, rfl, _, rfl, ?_⟩
      refine ⟨{ n := k.toNat, u := some (formSV k) }, ⟨(Int.toNat_of_nonneg (by omega)).symm, hlt, hpart _ rfl rfl⟩, ?_⟩
      refine cgo_go { s := (10, formSV k) :: (7, .one (.v formsVal)) :: l6s k n s la lc ls aa ac us p, m := l6m k n s la lc ls aa ac us p, k := 2, f := (fun _ => True) :: l6f k n s la lc ls aa ac us } [4] rfl (by kernel_rfl) (by kernel_rfl) ⟨⟨rfl, trivial⟩, ⟨rfl, trivial⟩, trivial⟩ ⟨?_, trivial⟩
      refine ⟨_, rfl, rfl, _, rfl, ?_⟩
      refine cgo_go { s := (5, .one (.p 2 0)) :: (10, formSV k) :: (7, .one (.v formsVal)) :: l6s k n s la lc ls aa ac us p, m := (2, l6z) :: l6m k n s la lc ls aa ac us p, k := 3, f := (fun _ => True) :: l6f k n s la lc ls aa ac us } [5] rfl (by kernel_rfl) (by kernel_rfl) ⟨⟨rfl, trivial⟩, ⟨rfl, trivial⟩, trivial⟩ ⟨?_, trivial⟩
      refine ⟨_, rfl, rfl, _, rfl, ?_⟩
      refine cgo_end _ rfl (by kernel_rfl) ⟨⟨rfl, trivial⟩, ⟨rfl, trivial⟩, trivial⟩ ?_
      exact ent_ren [(2, .blk 2), (1, .blk 1), (0, .blk 0)] rfl rfl rfl rfl (Nat.zero_le _) ⟨⟨_, rfl, rfl⟩, ⟨_, rfl, rfl⟩, ⟨_, rfl, rfl⟩, ⟨_, rfl, rfl⟩, trivial⟩ ⟨⟨_, rfl, rfl⟩, ⟨_, rfl, rfl⟩, ⟨_, rfl, rfl⟩, trivial⟩ ⟨⟨TTIn.upS _, fun w h => h.2.1⟩, trivial⟩
    · refine ⟨_, rfl, rfl, _, rfl, ?_⟩
      refine cgo_go { s := (5, .one (.p 2 0)) :: (7, .one (.v formsVal)) :: l6s k n s la lc ls aa ac us p, m := (2, l6z) :: l6m k n s la lc ls aa ac us p, k := 3, f := (fun _ => True) :: l6f k n s la lc ls aa ac us } [3] rfl (by kernel_rfl) (by kernel_rfl) ⟨⟨rfl, rfl⟩, ⟨rfl, rfl⟩, trivial⟩ ⟨?_, trivial⟩
      refine ⟨_, rfl, rfl, _, rfl, ?_⟩
      refine ⟨{ n := k.toNat, u := some (formSV k) }, ⟨(Int.toNat_of_nonneg (by omega)).symm, hlt, hpart _ rfl rfl⟩, ?_⟩
      refine cgo_go { s := (10, formSV k) :: (5, .one (.p 2 0)) :: (7, .one (.v formsVal)) :: l6s k n s la lc ls aa ac us p, m := (2, l6z) :: l6m k n s la lc ls aa ac us p, k := 3, f := (fun _ => True) :: l6f k n s la lc ls aa ac us } [5] rfl (by kernel_rfl) (by kernel_rfl) ⟨⟨rfl, trivial⟩, ⟨rfl, trivial⟩, trivial⟩ ⟨?_, trivial⟩
      refine ⟨_, rfl, rfl, _, rfl, ?_⟩
      refine cgo_end _ rfl (by kernel_rfl) ⟨⟨rfl, trivial⟩, ⟨rfl, trivial⟩, trivial⟩ ?_
      exact ent_ren [(2, .blk 2), (1, .blk 1), (0, .blk 0)] rfl rfl rfl rfl (Nat.zero_le _) ⟨⟨_, rfl, rfl⟩, ⟨_, rfl, rfl⟩, ⟨_, rfl, rfl⟩, ⟨_, rfl, rfl⟩, trivial⟩ ⟨⟨_, rfl, rfl⟩, ⟨_, rfl, rfl⟩, ⟨_, rfl, rfl⟩, trivial⟩ ⟨⟨TTIn.upS _, fun w h => h.2.1⟩, trivial⟩
  · refine ⟨_, rfl, rfl, _, rfl, ?_⟩
    refine cgo_go { s := (5, .one (.p 2 0)) :: l6s k n s la lc ls aa ac us p, m := (2, l6z) :: l6m k n s la lc ls aa ac us p, k := 3, f := l6f k n s la lc ls aa ac us } [0] rfl (by kernel_rfl) (by kernel_rfl) ⟨⟨rfl, rfl⟩, ⟨rfl, rfl⟩, trivial⟩ ⟨?_, trivial⟩
    refine ⟨_, rfl, rfl, _, rfl, ?_⟩
    refine callVC_plain forms_pc (fun _ => rfl) (fun _ _ => trivial) ?_
    rintro r rfl
    refine cgo_go { s := (7, .one (.v formsVal)) :: (5, .one (.p 2 0)) :: l6s k n s la lc ls aa ac us p, m := (2, l6z) :: l6m k n s la lc ls aa ac us p, k := 3, f := (fun _ => True) :: l6f k n s la lc ls aa ac us } [3] rfl (by kernel_rfl) (by kernel_rfl) ⟨⟨rfl, rfl⟩, ⟨rfl, rfl⟩, trivial⟩ ⟨?_, trivial⟩
    refine ⟨_, rfl, rfl, _, rfl, ?_⟩
    refine ⟨{ n := k.toNat, u := some (formSV k) }, ⟨(Int.toNat_of_nonneg (by omega)).symm, hlt, hpart _ rfl rfl⟩, ?_⟩
    refine cgo_go { s := (10, formSV k) :: (7, .one (.v formsVal)) :: (5, .one (.p 2 0)) :: l6s k n s la lc ls aa ac us p, m := (2, l6z) :: l6m k n s la lc ls aa ac us p, k := 3, f := (fun _ => True) :: l6f k n s la lc ls aa ac us } [5] rfl (by kernel_rfl) (by kernel_rfl) ⟨⟨rfl, trivial⟩, ⟨rfl, trivial⟩, trivial⟩ ⟨?_, trivial⟩
    refine ⟨_, rfl, rfl, _, rfl, ?_⟩
    refine cgo_end _ rfl (by kernel_rfl) ⟨⟨rfl, trivial⟩, ⟨rfl, trivial⟩, trivial⟩ ?_
    exact ent_ren [(2, .blk 2), (1, .blk 1), (0, .blk 0)] rfl rfl rfl rfl (Nat.zero_le _) ⟨⟨_, rfl, rfl⟩, ⟨_, rfl, rfl⟩, ⟨_, rfl, rfl⟩, ⟨_, rfl, rfl⟩, trivial⟩ ⟨⟨_, rfl, rfl⟩, ⟨_, rfl, rfl⟩, ⟨_, rfl, rfl⟩, trivial⟩ ⟨⟨TTIn.upS _, fun w h => h.2.1⟩, trivial⟩
end
end Go.Proofs.YtmkpiekbpakigaaGreatDoor
end
section
set_option linter.unusedVariables false
set_option linter.unusedSimpArgs false
namespace Go.Proofs.YtmkpiekbpakigaaGreatDoor
open Go.RowKit Go.Shelf
attribute [local go_sem] Oper.semAt_some
/-- The parts of a text between its points. -/
def splitDot : List UInt8 → List (List UInt8)
  | [] => [[]]
  | b :: r => match splitDot r with
    | [] => [[b]]
    | x :: xs => if b == 46 then [] :: x :: xs else (b :: x) :: xs
theorem splitDot_ne : ∀ l, splitDot l ≠ []
  | [] => by simp [splitDot]
  | b :: r => by
    unfold splitDot
    split
    · simp
    · split <;> simp
theorem splitDot_none : ∀ {l : List UInt8}, Lib.indexByte l 46 = -1 → splitDot l = [l]
  | [], _ => rfl
  | b :: r, h => by
    unfold Lib.indexByte at h
    split at h
    · simp at h
    · rename_i hb
      have hr : Lib.indexByte r 46 = -1 := by
        split at h
        · rename_i hl
          exact beq_iff_eq.1 hl
        · have := Lib.indexByte_ge r 46
          omega
      unfold splitDot
      rw [splitDot_none hr]
      simp [hb]
theorem splitDot_some : ∀ {l : List UInt8} {i : Nat}, Lib.indexByte l 46 = (i : Int) → splitDot l = l.take i :: splitDot (l.drop (i + 1)) ∧ i < l.length
  | [], i, h => by
    simp [Lib.indexByte] at h
  | b :: r, i, h => by
    unfold Lib.indexByte at h
    split at h
    · rename_i hb
      have : i = 0 := by omega
      subst this
      refine ⟨?_, by simp⟩
      simp only [List.take_zero, Nat.zero_add, List.drop_one, List.tail_cons]
      rw [splitDot]
      cases hs : splitDot r with
      | nil => exact absurd hs (splitDot_ne r)
      | cons x xs => simp [hb]
    · rename_i hb
      split at h
      · rename_i hl
        omega
      · rename_i hl
        have hge := Lib.indexByte_ge r 46
        have hne : Lib.indexByte r 46 ≠ -1 := fun e => hl (by rw [e]; rfl)
        obtain ⟨j, rfl⟩ : ∃ j, i = j + 1 := ⟨i - 1, by omega⟩
        have hj : Lib.indexByte r 46 = (j : Int) := by omega
        obtain ⟨h1, h2⟩ := splitDot_some hj
        refine ⟨?_, by simp; omega⟩
        rw [splitDot, h1]
        simp [hb]
/-- The string of these bytes. -/
def strOf (l : List UInt8) : ByteArray := ⟨l.toArray⟩
theorem strOf_data (s : ByteArray) : strOf s.data.toList = s := by cases s; rfl
theorem strOf_list (l : List UInt8) : (strOf l).data.toList = l := rfl
theorem strOf_size (l : List UInt8) : (strOf l).size = l.length := rfl
theorem strOf_take (l : List UInt8) (i : Nat) : (strOf l).extract 0 i = strOf (l.take i) := by
  apply ByteArray.ext
  simp [strOf, ByteArray.data_extract]
theorem strOf_drop (l : List UInt8) (i : Nat) (h : i ≤ l.length) : (strOf l).extract i l.length = strOf (l.drop i) := by
  apply ByteArray.ext
  simp only [strOf, ByteArray.data_extract]
  apply Array.ext'
  simp only [List.extract_toArray, List.extract_eq_take_drop]
  exact List.take_of_length_le (by simp)
def leftS (sb : Nat) (w : World) : Nat := match w.cell? ⟨sb, 0, none⟩ with
  | some (.string r) => r.size
  | _ => 0
theorem leftS_eq {sb : Nat} {w : World} {r : ByteArray} (h : w.cell? ⟨sb, 0, none⟩ = some (.string r)) : leftS sb w = r.size := by simp [leftS, h]
/-- The iterator's own blocks lie as they lay. -/
def KpS (p0 : Nat) (W W' : World) : Prop := ∀ k, p0 ≤ k → k < p0 + 3 → W'.heap[k]? = W.heap[k]?
set_option maxRecDepth 100000 in
set_option maxHeartbeats 2000000 in
theorem split_in (F : Fence) (n l : Nat) (h167 : F.fn 158) (h148f : F.fn 137) (h148 : ∀ s (w : World) , CallsIn F (n - 1) Tryz.prog 137 #[.string s, .string ⟨#[46]⟩] w fun e w' => e = .returned (.int .i64 (Lib.indexByte s.data.toList 46)) ∧ w' = w) (hro : F.round = none) (hn : 1 ≤ n) (p0 : Nat) (J Jx : List (List UInt8) → World → Prop)
    (hJ : ∀ pre W v, J pre W → J pre (W.setCell ⟨p0, 0, none⟩ v))
    (s : List UInt8) (hY : ∀ pre x W, x.length ≤ s.length → J pre W → YieldAt F (n - 1) Tryz.prog l #[.string (strOf x)] W fun e W' =>
      (e = .returned (.bool true) ∧ J (pre ++ [x]) W' ∧ KpS p0 W W') ∨ (e = .returned (.bool false) ∧ Jx (pre ++ [x]) W'))
    (W : World) (hs : s.length ≤ 4611686018427387904) (hb0 : W.heap[p0]? = some (.cells #[.string (strOf s)] 9 (0, 0))) (hb1 : W.heap[p0 + 1]? = some (.cells #[.string ⟨#[46]⟩] 9 (0, 0))) (hb2 : W.heap[p0 + 2]? = some (.cells #[.int .i64 0] 3 (0, 0))) (h0 : J [] W) :
    CallsIn F n Tryz.prog 158 #[.func (.yield l) #[] #[], .pointer (some ⟨p0 + 1, 0, none⟩), .pointer (some ⟨p0, 0, none⟩), .pointer (some ⟨p0 + 2, 0, none⟩)] W fun e W' => (∃ v, e = .returned v) ∧
      (J (splitDot s) W' ∨ ∃ pre x r, splitDot s = pre ++ x :: r ∧ Jx (pre ++ [x]) W') := by
  refine callsIn_of_wp Tryz.func158 rfl h167 ?_ hro
  simp only [Tryz.ntmps158, List.size_toArray, List.length_cons, List.length_nil, Nat.reduceAdd, Nat.reduceSub, Array.replicate_succ, Array.replicate_zero, List.push_toArray, List.append_toArray, List.nil_append, List.cons_append]
  have cell1 : ∀ {w : World} {g : Nat} {v : Value} {t : TypeId}, w.heap[g]? = some (.cells #[v] t (0, 0)) → w.cell? ⟨g, 0, none⟩ = some v := fun h => by simp [World.cell?, h]
  have frz1 : ∀ {w : World} {g : Nat} {v : Value} {t : TypeId}, w.heap[g]? = some (.cells #[v] t (0, 0)) → w.frozen? ⟨g, 0, none⟩ = false := fun h => by simp [World.frozen?, h]
  have hc0 := cell1 hb0
  have hc1 := cell1 hb1
  have hc2 := cell1 hb2
  gi_wp2
  gi_loopw [] (fun wr => ∃ (pre : List (List UInt8)) (rest : List UInt8), splitDot s = pre ++ splitDot rest ∧ rest.length ≤ s.length ∧ J pre wr ∧ wr.heap[p0]? = some (.cells #[.string (strOf rest)] 9 (0, 0)) ∧ wr.heap[p0 + 1]? = some (.cells #[.string ⟨#[46]⟩] 9 (0, 0)) ∧ wr.heap[p0 + 2]? = some (.cells #[.int .i64 0] 3 (0, 0)))
    (fun wr => leftS p0 wr)
  case atStart =>
    exact ⟨[], s, rfl, Nat.le_refl _, h0, hb0, hb1, hb2⟩
  case round =>
    obtain ⟨pre, rest, hsp, hle, hJ1, hb0, hb1, hb2⟩ := hrel
    have hc0 := cell1 hb0
    have hc1 := cell1 hb1
    have hc2 := cell1 hb2
    by_cases hi : Lib.indexByte rest 46 = -1
    · obtain ⟨fn, tmps, assign, body, hy, hR⟩ := hY pre rest wr hle hJ1
      have h148' : CallsIn F (n - 1) Tryz.prog 137 #[.string (strOf rest), .string ⟨#[46]⟩] wr fun e w' => e = .returned (.int .i64 (-1)) ∧ w' = wr := (h148 (strOf rest) wr).mono fun e w' h => by
        rw [strOf_list, hi] at h
        exact h
      gi_wp2_with (gi_at_call 137; refine h148'.mono ?_; clear h148'; rintro e w' ⟨rfl, rfl⟩)
      refine hR.mono ?_
      rintro e W' (⟨rfl, hJ3, hk3⟩ | ⟨rfl, hJx3⟩)
      · gi_wp2
        go_end0
        exact ⟨⟨_, rfl⟩, .inl (by rw [hsp, splitDot_none hi]; exact hJ3)⟩
      · gi_wp2
        go_end0
        exact ⟨⟨_, rfl⟩, .inr ⟨pre, rest, [], by rw [hsp, splitDot_none hi], hJx3⟩⟩
    · obtain ⟨i, hi⟩ : ∃ i : Nat, Lib.indexByte rest 46 = (i : Int) := by
        have := Lib.indexByte_ge rest 46
        exact ⟨(Lib.indexByte rest 46).toNat, by omega⟩
      obtain ⟨hsp1, hil⟩ := splitDot_some hi
      obtain ⟨fn, tmps, assign, body, hy, hR⟩ := hY pre (rest.take i) wr (by simp; omega) hJ1
      have h148' : CallsIn F (n - 1) Tryz.prog 137 #[.string (strOf rest), .string ⟨#[46]⟩] wr fun e w' => e = .returned (.int .i64 (i : Int)) ∧ w' = wr := (h148 (strOf rest) wr).mono fun e w' h => by
        rw [strOf_list, hi] at h
        exact h
      rw [← strOf_take] at hy
      have hx1 : (0 : Int) ≤ (i : Int) := by omega
      have hx2 : (i : Int) ≤ ((strOf rest).size : Int) := by rw [strOf_size]; omega
      have hx3 : i ≤ (strOf rest).size := by rw [strOf_size]; omega
      have hx4 : ¬ ((i : Int) < 0) := by omega
      gi_wp2_with (gi_at_call 137; refine h148'.mono ?_; clear h148'; rintro e w' ⟨rfl, rfl⟩)
      refine hR.mono ?_
      rintro e W' (⟨rfl, hJ3, hk3⟩ | ⟨rfl, hJx3⟩)
      · have hb0' := (hk3 p0 (Nat.le_refl _) (by omega)).trans hb0
        have hb1' := (hk3 (p0 + 1) (by omega) (by omega)).trans hb1
        have hb2' := (hk3 (p0 + 2) (by omega) (by omega)).trans hb2
        have hc0' := cell1 hb0'
        have hc1' := cell1 hb1'
        have hc2' := cell1 hb2'
        have hf0' := frz1 hb0'
        have hx5 : (0 : Int) ≤ (i : Int) + 1 := by omega
        have hx6 : (i : Int) + 1 ≤ ((strOf rest).size : Int) := by rw [strOf_size]; omega
        have hx7 : i + 1 ≤ (strOf rest).size := by rw [strOf_size]; omega
        gi_wp2
        rw [strOf_size, strOf_drop _ _ (by omega)]
        have hset : (W'.setCell ⟨p0, 0, none⟩ (.string (strOf (rest.drop (i + 1))))).heap[p0]? = some (.cells #[.string (strOf (rest.drop (i + 1)))] 9 (0, 0)) := by
          show (W'.heap.modify p0 _)[p0]? = _
          have hlt := (Array.getElem?_eq_some_iff.1 hb0').1
          rw [Array.getElem?_eq_getElem (by simpa using hlt), Array.getElem_modify_self, (Array.getElem?_eq_some_iff.1 hb0').2]
          rfl
        refine ⟨⟨pre ++ [rest.take i], rest.drop (i + 1), by rw [hsp, hsp1]; simp, by simp; omega, hJ _ _ _ hJ3, hset, ?_, ?_⟩, ?_⟩
        · rw [Below.heap_setCell W' _ _ _ (by simp)]
          exact hb1'
        · rw [Below.heap_setCell W' _ _ _ (by simp)]
          exact hb2'
        · rw [leftS_eq (cell1 hset), leftS_eq hc0, strOf_size, strOf_size]
          simp
          omega
      · gi_wp2
        refine bodyPost_ret (results_none rfl _ _ _) rfl ?_
        exact ⟨⟨_, rfl⟩, .inr ⟨pre, rest.take i, splitDot (rest.drop (i + 1)), by rw [hsp, hsp1], hJx3⟩⟩
end Go.Proofs.YtmkpiekbpakigaaGreatDoor
end
section
set_option linter.unusedVariables false
set_option linter.unusedSimpArgs false
namespace Go.Proofs.YtmkpiekbpakigaaGreatDoor
open Go.RowKit Go.Proofs.Base Go.Proofs.Sym
def orI (c : Int) : Int := IntKind.u8.wrap ((BitVec.ofInt IntKind.u8.bits c ||| BitVec.ofInt IntKind.u8.bits 32).toNat)
def letterI (c : Int) : Bool := decide (97 ≤ orI c) && decide (orI c ≤ 122)
def signI (c : Int) : Bool := letterI c || (decide (48 ≤ c) && decide (c ≤ 57)) || decide (c = 95)
theorem letter_pc (c : Int) : PCall Tryz.prog 139 [.int .u8 c] (fun _ => True) (fun r => r = .bool (letterI c)) (fun _ _ => True) := by
  refine pcall_of tabOk 11 [.tmp 2] Tryz.func139 rfl rfl (by kernel_rfl) rfl _ (Nat.le_of_ble_eq_true rfl) Up.true (fun _ => Up.true) ?_
  refine svc_ok tabOk [] _ _ _ ?_
  refine bsplit_i (fun h => ?_) (fun h => ?_)
  · have h : decide (97 ≤ orI c) = true := h
    refine ⟨_, rfl, Told.val ?_⟩
    unfold letterI
    rw [h]
    rfl
  · have h : decide (97 ≤ orI c) = false := h
    refine ⟨_, rfl, Told.val ?_⟩
    unfold letterI
    rw [h]
    rfl
theorem sign_pc (c : Int) : PCall Tryz.prog 140 [.int .u8 c] (fun _ => True) (fun r => r = .bool (signI c)) (fun _ _ => True) := by
  refine pcall_of tabOk 17 [.tmp 2] Tryz.func140 rfl rfl (by kernel_rfl) rfl _ (Nat.le_of_ble_eq_true rfl) Up.true (fun _ => Up.true) ?_
  refine svc_ok tabOk [] _ _ _ ?_
  have hl := letter_pc c
  have hsg : ∀ b, letterI c = b → signI c = (b || (decide (48 ≤ c) && decide (c ≤ 57)) || decide (c = 95)) := fun b h => by rw [signI, h]
  cases hb : letterI c <;> rw [hb] at hl <;> have hsg := hsg _ hb
  · refine callVC_plain hl (fun _ => rfl) (fun _ _ => trivial) ?_
    rintro r rfl
    refine bsplit_i (fun h => ?_) (fun h => ?_)
    · have h : decide (48 ≤ c) = true := h
      refine bsplit_i (fun h2 => ?_) (fun h2 => ?_)
      · have h2 : decide (c ≤ 57) = true := h2
        exact ⟨_, rfl, Told.val (by rw [hsg, h, h2]; rfl)⟩
      · have h2 : decide (c ≤ 57) = false := h2
        exact ⟨_, rfl, Told.val (by rw [hsg, h, h2]; rfl)⟩
    · have h : decide (48 ≤ c) = false := h
      exact ⟨_, rfl, Told.val (by rw [hsg, h]; rfl)⟩
  · refine callVC_plain hl (fun _ => rfl) (fun _ _ => trivial) ?_
    rintro r rfl
    exact ⟨_, rfl, Told.val (by rw [hsg]; rfl)⟩
/-- Is a text a part of a name? -/
def signs : List UInt8 → Bool
  | [] => true
  | b :: r => signI (b.toNat : Int) && signs r
def partB : List UInt8 → Bool
  | [] => false
  | b :: r => letterI (b.toNat : Int) && signs (b :: r)
theorem signs_drop {l : List UInt8} {j : Nat} (h : j < l.length) : signs (l.drop j) = (signI ((l.getD j 0).toNat : Int) && signs (l.drop (j + 1))) := by
  rw [List.drop_eq_getElem_cons h, signs]
  simp [List.getD, List.getElem?_eq_getElem h]
theorem size_list (s : ByteArray) : s.size = s.data.toList.length := by
  rw [Array.length_toList]
  rfl
set_option maxHeartbeats 1000000 in
theorem part_pc (s : ByteArray) (hs : s.size ≤ 9223372036854775807) : PCall Tryz.prog 99 [.string s] (fun _ => True) (fun r => r = .bool (partB s.data.toList)) (fun _ _ => True) := by
  have hl := letter_pc ((s.data.toList.getD 0 0).toNat : Int)
  refine pcall_of tabOk 23 [.tmp 2] Tryz.func99 rfl rfl (by kernel_rfl) rfl _ (Nat.le_of_ble_eq_true rfl) Up.true (fun _ => Up.true) ?_
  refine svc_ok tabOk [] _ _ _ ?_
  have hsz := size_list s
  refine bsplit_i (fun h => ?_) (fun h => ?_)
  · have h : decide (s = ⟨#[]⟩) = true := h
    have h := of_decide_eq_true h
    subst h
    exact ⟨_, rfl, Told.val rfl⟩
  have hpos : 0 < s.size := by
    have h : decide (s = ⟨#[]⟩) = false := h
    have h := of_decide_eq_false h
    refine Nat.pos_of_ne_zero fun h0 => h ?_
    exact ByteArray.ext (Array.eq_empty_of_size_eq_zero h0)
  have hpart : partB s.data.toList = (letterI ((s.data.toList.getD 0 0).toNat : Int) && signs s.data.toList) := by
    cases hd : s.data.toList with
    | nil =>
      rw [hd] at hsz
      have hsz : s.size = 0 := hsz
      omega
    | cons b r => rfl
  cases hb : letterI ((s.data.toList.getD 0 0).toNat : Int) <;> rw [hb] at hl hpart
  · refine ⟨{ n := 0 }, ⟨rfl, hpos⟩, ?_⟩
    refine callVC_plain hl (fun _ => rfl) (fun _ _ => trivial) ?_
    rintro r rfl
    exact ⟨_, rfl, Told.val (by rw [hpart]; rfl)⟩
  refine ⟨{ n := 0 }, ⟨rfl, hpos⟩, ?_⟩
  refine callVC_plain hl (fun _ => rfl) (fun _ _ => trivial) ?_
  rintro r rfl
  rw [Bool.true_and] at hpart
  refine ⟨⟨Nat, fun j => j ≤ s.size ∧ signs (s.data.toList.drop j) = partB s.data.toList,
    fun j => { s := [(0, .one (.v (.string s))), (13, .one (.v (.int .i64 (s.size : Int)))), (14, .one (.v (.int .i64 (j : Int))))], m := [], k := 0, f := [] },
    fun j => s.size - j, ⟨0, ⟨Nat.zero_le _, by rw [hpart]; rfl⟩, ?_⟩, ?_⟩⟩
  · refine ent_ren [] rfl rfl rfl rfl (Nat.zero_le _) ?_ ?_ ?_
    · exact ⟨⟨_, rfl, rfl⟩, ⟨_, rfl, rfl⟩, ⟨_, rfl, rfl⟩, trivial⟩
    · exact trivial
    · exact trivial
  rintro j ⟨hj, hsg⟩
  refine bsplit_i (fun hlt => ?_) (fun hge => ?_)
  · have hlt : j < s.size := by
      have h : decide ((j : Int) < (s.size : Int)) = true := hlt
      have := of_decide_eq_true h
      omega
    have hc := sign_pc ((s.data.toList.getD j 0).toNat : Int)
    rw [signs_drop (by omega)] at hsg
    cases hb2 : signI ((s.data.toList.getD j 0).toNat : Int) <;> rw [hb2] at hc hsg
    · refine ⟨{ n := j }, ⟨rfl, hlt⟩, ?_⟩
      refine callVC_plain hc (fun _ => rfl) (fun _ _ => trivial) ?_
      rintro r rfl
      exact ⟨_, rfl, Told.val (by rw [← hsg]; rfl)⟩
    · refine ⟨{ n := j }, ⟨rfl, hlt⟩, ?_⟩
      refine callVC_plain hc (fun _ => rfl) (fun _ _ => trivial) ?_
      rintro r rfl
      refine ⟨j + 1, ⟨hlt, by rw [← hsg]; rfl⟩, by simp only; omega, ?_⟩
      refine ent_ren [] rfl rfl rfl rfl (Nat.zero_le _) ?_ ?_ ?_
      · exact ⟨⟨_, rfl, rfl⟩, ⟨_, rfl, rfl⟩, ⟨_, rfl, oneI (wrapI (by omega) (by omega))⟩, trivial⟩
      · exact trivial
      · exact trivial
  · have hge : s.size ≤ j := by
      have h : decide ((j : Int) < (s.size : Int)) = false := hge
      have := of_decide_eq_false h
      omega
    refine ⟨_, rfl, Told.val ?_⟩
    rw [← hsg, List.drop_eq_nil_of_le (by omega)]
    rfl
end Go.Proofs.YtmkpiekbpakigaaGreatDoor
end
section
set_option linter.unusedVariables false
set_option linter.unusedSimpArgs false
namespace Go.Proofs.YtmkpiekbpakigaaGreatDoor
open Go.RowKit Go.Shelf
attribute [local go_sem] Oper.semAt_some
def reservedL : List UInt8 := [32, 80, 114, 111, 112, 32, 84, 121, 112, 101, 32, 102, 117, 110, 32, 97, 108, 108, 32, 108, 101, 116, 32, 105, 110, 32, 111, 102, 32, 119, 105, 116, 104, 32, 97] ++ [120, 105, 111, 109, 32, 100, 101, 102, 32, 116, 104, 101, 111, 114, 101, 109, 32, 102, 97, 109, 105, 108, 121, 32, 117, 48, 32, 117, 49, 32, 117, 50, 32, 117, 51, 32]
def reservedS : ByteArray := ⟨reservedL.toArray⟩
def spS : ByteArray := ⟨#[32]⟩
def isReserved (s : ByteArray) : Bool := Lib.contains reservedS.data.toList (spS ++ s ++ spS).data.toList
theorem reserved_size : reservedS.size < 4294967281 := Nat.lt_of_le_of_lt (Nat.le_of_ble_eq_true (rfl : Nat.ble reservedS.size 100 = true)) (by decide)
theorem contains_calls (s : ByteArray) (w : World) (m : Int) (hm : w.cell? ⟨0, 0, none⟩ = some (.int .i64 m)) :
    Calls Tryz.prog 97 #[.string reservedS, .string (spS ++ s ++ spS)] w fun e w' => e = .returned (.bool (isReserved s)) ∧ w' = w :=
  Tryz.strings_Contains reservedS (spS ++ s ++ spS) m w reserved_size hm
def wordB (s : ByteArray) : Bool := decide (s.size ≤ 32) && !isReserved s && (splitDot s.data.toList).all partB
/-- How the body of a round may be left. -/
def splitPost (p0 : Nat) (I : List (List UInt8) → World → Prop) (Ix : List (List UInt8) → World → Prop) (xs : List (List UInt8)) (W : World) : Exit → Act → World → Prop
  | .normal, _, W' => KeepsOthers W W' ∧ KpS p0 W W' ∧ I xs W'
  | .ret, _, W' => KeepsOthers W W' ∧ Ix xs W'
  | _, _, _ => False
/-- 'for p := range strings.SplitSeq(s, ".") { .. }'. -/
theorem wpIn_rangeSplit {n : Nat} {g : Operand} {ps : Array Tmp} {assign body : Code} {Q : Exit → Act → World → Prop} {a : Act} {w : World} {p0 : Nat} {s : List UInt8}
    (h1 : 2 ≤ n) (hg : a.eval g = .func (.func 158) #[] #[.pointer (some ⟨p0 + 1, 0, none⟩), .pointer (some ⟨p0, 0, none⟩), .pointer (some ⟨p0 + 2, 0, none⟩)])
    (hs : s.length ≤ 4611686018427387904) (hb0 : w.heap[p0]? = some (.cells #[.string (strOf s)] 9 (0, 0))) (hb1 : w.heap[p0 + 1]? = some (.cells #[.string ⟨#[46]⟩] 9 (0, 0))) (hb2 : w.heap[p0 + 2]? = some (.cells #[.int .i64 0] 3 (0, 0))) (hps : ps.size = 1)
    (I Ix : List (List UInt8) → World → Prop) (hI : OwnFrom w.heap.size I) (hIx : OwnFrom w.heap.size Ix) (hIs : ∀ pre W v, I pre W → I pre (W.setCell ⟨p0, 0, none⟩ v)) (h0 : I [] w) (a₁ : List UInt8 → Act)
    (hassign : ∀ (l : Nat) (x : List UInt8) (W : World) (K : Act → World → Prop), K (a₁ x) W →
      assign.wpIn (Fence.wide.inRound l) (n - 1 - 1) Tryz.prog (Exit.then K (fun _ _ _ => False)) { tmps := (ps.zip #[.string (strOf x)]).foldl (fun t (p, v) => t.setIfInBounds p v) a.tmps, defers := [] } W)
    (hbody : ∀ (l : Nat) (pre : List (List UInt8)) (x : List UInt8) (W : World), x.length ≤ s.length → I pre W → body.wpIn (Fence.wide.inRound l) (n - 1 - 1) Tryz.prog (splitPost p0 I Ix (pre ++ [x]) W) (a₁ x) W)
    (hdone : ∀ (D : Nat) (W : World), w.heap.size ≤ D → I (splitDot s) W → W.heap[D]? = some (.deferred (some [])) → Q .normal { a with defers := { target := .collected D, args := #[] } :: a.defers } W)
    (hstop : ∀ (D : Nat) (pre : List (List UInt8)) (x : List UInt8) (r : List (List UInt8)) (W : World), w.heap.size ≤ D → splitDot s = pre ++ x :: r → Ix (pre ++ [x]) W → W.heap[D]? = some (.deferred (some [])) → Code.ret.wpIn Fence.wide n Tryz.prog Q { a with defers := { target := .collected D, args := #[] } :: a.defers } W) :
    (Code.rangeFunc g ps assign body).wpIn Fence.wide n Tryz.prog Q a w := by
  have hplt : p0 + 2 < w.heap.size := (Array.getElem?_eq_some_iff.1 hb2).1
  refine wpIn_rangeFunc ?_
  intro fn hfn
  obtain ⟨rec, hrec⟩ : ∃ rec : LoopState → Option Code → Loop, rec = fun st pe => { state := st, pending := pe, fn, tmps := a.tmps, params := ps, assign, body, defers := w.heap.size } := ⟨_, rfl⟩
  obtain ⟨W1, hW1⟩ : ∃ W1, (w.alloc (.deferred (some []))).alloc (.loop (rec .ready none)) = W1 := ⟨_, rfl⟩
  have hL1 : W1.heap[w.heap.size + 1]? = some (.loop (rec .ready none)) := by
    rw [← hW1]; have := World.alloc_heap_new (w.alloc (.deferred (some []))) (.loop (rec .ready none)); rwa [World.size_alloc] at this
  have hK1 : W1.heap[w.heap.size]? = some (.deferred (some [])) := by
    rw [← hW1]; exact (Below.heap_alloc _ _ _ (by simp)).trans (World.alloc_heap_new w _)
  have hI1 : I [] W1 := by rw [← hW1]; exact hI.alloc _ (hI.alloc _ h0)
  have hold : ∀ k, k < w.heap.size → W1.heap[k]? = w.heap[k]? := fun k hk => by
    rw [← hW1]; exact (Below.heap_alloc _ _ _ (by simp; omega)).trans (Below.heap_alloc _ _ _ hk)
  refine ⟨w.heap.size + 1, [{ target := .collected w.heap.size, args := #[] }], W1, { target := .fn (.func 158) #[.pointer (some ⟨p0 + 1, 0, none⟩), .pointer (some ⟨p0, 0, none⟩), .pointer (some ⟨p0 + 2, 0, none⟩)], args := #[.func (.yield (w.heap.size + 1)) #[] #[]] }, W1, 158,
    #[.func (.yield (w.heap.size + 1)) #[] #[]] ++ #[.pointer (some ⟨p0 + 1, 0, none⟩), .pointer (some ⟨p0, 0, none⟩), .pointer (some ⟨p0 + 2, 0, none⟩)], W1, ?_, ?_, ?_, ?_, fun _ => by omega, ?_⟩
  · rw [← hW1, hrec]; exact run_enterLoop_outer _ _ _ _ _
  · simp only [resolve, hg]
    simp [go_sem]
  · intro f' hf'; trivial
  · simp [invoke, go_sem, enters_of Tryz.func158 (by kernel_rfl) rfl]
  · refine (split_in Fence.wide (n - 1) (w.heap.size + 1) trivial trivial (fun s w => callsIn_wide.2 (Tryz.strings_Index_one s 46 w)) rfl (by omega) p0
      (fun pre W => I pre W ∧ W.heap[w.heap.size + 1]? = some (.loop (rec .ready none)) ∧ W.heap[w.heap.size]? = some (.deferred (some [])))
      (fun pre W => Ix pre W ∧ W.heap[w.heap.size + 1]? = some (.loop (rec .done (some .ret))) ∧ W.heap[w.heap.size]? = some (.deferred (some [])))
      (fun pre W v hs => ⟨hIs _ _ _ hs.1, (KeepsOthers.setCell W _ v).same _ _ hs.2.1 rfl, (KeepsOthers.setCell W _ v).same _ _ hs.2.2 rfl⟩)
      s ?_ W1 hs ((hold _ (by omega)).trans hb0) ((hold _ (by omega)).trans hb1) ((hold _ (by omega)).trans hb2) ⟨hI1, hL1, hK1⟩).mono ?_
    · rintro pre x W hxl ⟨hi, hl, hk⟩
      have hlt : w.heap.size + 1 < W.heap.size := (Array.getElem?_eq_some_iff.1 hl).1
      have hy := run_yield (P := Tryz.prog) (args := #[.string (strOf x)]) hl (by rw [hrec]; simp [hps])
      rw [hrec] at hy
      refine ⟨fn, _, assign, body, hy, roundIn_of_wpIn hfn (hassign _ x W _ ⟨_, run_beginRound hl (by rw [hrec]), ?_⟩)⟩
      have hl2 : (W.putObj (w.heap.size + 1) (.loop { rec .ready none with state := .busy })).heap[w.heap.size + 1]? = some (.loop { rec .ready none with state := .busy }) := World.putObj_heap_same hlt
      have hk2 : (W.putObj (w.heap.size + 1) (.loop { rec .ready none with state := .busy })).heap[w.heap.size]? = some (.deferred (some [])) := (World.putObj_heap_other (by omega)).trans hk
      refine wpIn_mono (hbody _ pre x _ hxl (hI.putObj _ hi (by omega) hl rfl)) ?_
      have fin : ∀ (jump : Option Code) (W3 : World), KeepsOthers (W.putObj (w.heap.size + 1) (.loop { rec .ready none with state := .busy })) W3 →
          (Instr.endRound (w.heap.size + 1) jump).run Tryz.prog W3 = .ok (.bool jump.isNone) (W3.putObj (w.heap.size + 1) (.loop (rec (if jump.isNone then .ready else .done) jump))) ∧
          W3.heap[w.heap.size + 1]? = some (.loop { rec .ready none with state := .busy }) ∧
          (W3.putObj (w.heap.size + 1) (.loop (rec (if jump.isNone then .ready else .done) jump))).heap[w.heap.size + 1]? = some (.loop (rec (if jump.isNone then .ready else .done) jump)) ∧
          (W3.putObj (w.heap.size + 1) (.loop (rec (if jump.isNone then .ready else .done) jump))).heap[w.heap.size]? = some (.deferred (some [])) := fun jump W3 hk3 => by
        have hl3 := hk3.same _ _ hl2 rfl
        have := run_endRound (P := Tryz.prog) jump hl3
        rw [hrec] at this ⊢
        exact ⟨this, by rw [hrec] at hl3; exact hl3, World.putObj_heap_same (Array.getElem?_eq_some_iff.1 hl3).1, (World.putObj_heap_other (by omega)).trans (hk3.same _ _ hk2 rfl)⟩
      rintro e a3 W3 hp
      cases e with
      | normal =>
        obtain ⟨hk3, hkp, hi3⟩ := hp
        obtain ⟨hr, hl3, hl4, hk4⟩ := fin none W3 hk3
        refine ⟨_, _, hr, .inl ⟨rfl, ⟨hI.putObj _ hi3 (by omega) hl3 rfl, hl4, hk4⟩, fun k hk1 hk2 => ?_⟩⟩
        rw [World.putObj_heap_other (by omega), hkp k hk1 hk2, World.putObj_heap_other (by omega)]
      | ret =>
        obtain ⟨hk3, hi3⟩ := hp
        obtain ⟨hr, hl3, hl4, hk4⟩ := fin (some .ret) W3 hk3
        exact ⟨_, _, hr, .inr ⟨rfl, hIx.putObj _ hi3 (by omega) hl3 rfl, hl4, hk4⟩⟩
      | exit id => exact hp.elim
      | goto t => exact hp.elim
      | panic ch => exact hp.elim
      | outgrown => exact hp.elim
    · rintro e W2 ⟨⟨v, rfl⟩, (⟨hi, hl, hk⟩ | ⟨pre, x, r, hsp, hi, hl, hk⟩)⟩
      · exact ⟨none, _, by have := run_endLoop (P := Tryz.prog) hl (by rw [hrec]; simp); rw [hrec] at this; exact this, hdone _ _ (Nat.le_refl _) (hI.putObj _ hi (by omega) hl rfl) ((World.putObj_heap_other (by omega)).trans hk)⟩
      · exact ⟨some .ret, _, by have := run_endLoop (P := Tryz.prog) hl (by rw [hrec]; simp); rw [hrec] at this; exact this, hstop _ pre x r _ (Nat.le_refl _) hsp (hIx.putObj _ hi (by omega) hl rfl) ((World.putObj_heap_other (by omega)).trans hk)⟩
/-- strings.SplitSeq (129). -/
theorem splitSeq_calls (s : ByteArray) (w : World) : Calls Tryz.prog 98 #[.string s, .string ⟨#[46]⟩] w fun e w' =>
    e = .returned (.func (.func 158) #[] #[.pointer (some ⟨w.heap.size + 1, 0, none⟩), .pointer (some ⟨w.heap.size, 0, none⟩), .pointer (some ⟨w.heap.size + 2, 0, none⟩)]) ∧
    w' = ((w.alloc (.cells #[.string s] 9)).alloc (.cells #[.string ⟨#[46]⟩] 9)).alloc (.cells #[.int .i64 0] 3) := by
  have h149 : CallsIn Fence.wide 2 Tryz.prog 138 #[.string s, .string ⟨#[46]⟩, .int .i64 0] w fun e w' =>
    e = .returned (.func (.func 158) #[] #[.pointer (some ⟨w.heap.size + 1, 0, none⟩), .pointer (some ⟨w.heap.size, 0, none⟩), .pointer (some ⟨w.heap.size + 2, 0, none⟩)]) ∧
    w' = ((w.alloc (.cells #[.string s] 9)).alloc (.cells #[.string ⟨#[46]⟩] 9)).alloc (.cells #[.int .i64 0] 3) := by
    refine callsIn_of_wp Tryz.func138 rfl trivial ?_ rfl
    simp only [Tryz.ntmps138, List.size_toArray, List.length_cons, List.length_nil, Nat.reduceAdd, Nat.reduceSub, Array.replicate_succ, Array.replicate_zero, List.push_toArray, List.append_toArray, List.nil_append, List.cons_append]
    gi_wp2
    go_ret
    exact ⟨by simp, rfl⟩
  refine (callsIn_wide (n := 3)).1 ?_
  refine callsIn_of_wp Tryz.func98 rfl trivial ?_ rfl
  simp only [Tryz.ntmps98, List.size_toArray, List.length_cons, List.length_nil, Nat.reduceAdd, Nat.reduceSub, Array.replicate_succ, Array.replicate_zero, List.push_toArray, List.append_toArray, List.nil_append, List.cons_append]
  have f149 : Fence.wide.fn 138 := trivial
  gi_wp2_with (gi_at_call 138; refine h149.mono ?_; clear h149; rintro e w' ⟨rfl, rfl⟩)
  go_ret
  exact ⟨rfl, rfl⟩
theorem part_calls (x : List UInt8) (hx : x.length ≤ 9223372036854775807) (W : World) : Calls Tryz.prog 99 #[.string (strOf x)] W fun e w' => e = .returned (.bool (partB x)) ∧ Below W.heap.size W w' := by
  refine ((part_pc (strOf x) hx).run W (fun _ => False) (fun _ h => h.elim) trivial).mono ?_
  rintro en w' ⟨r, rfl, rfl, _, hb⟩
  exact ⟨rfl, hb⟩
theorem keeps_below {W W' : World} (h : Below W.heap.size W W') : KeepsOthers W W' := ⟨h.size, fun k o hk ho => (h.block k (Array.getElem?_eq_some_iff.1 hk).1).trans hk⟩
set_option maxRecDepth 100000 in
set_option maxHeartbeats 4000000 in
theorem word_calls (s : ByteArray) (w : World) (m : Int) (hm : w.cell? ⟨0, 0, none⟩ = some (.int .i64 m)) :
    Calls Tryz.prog 57 #[.string s] w fun e w' => e = .returned (.bool (wordB s)) ∧ Below w.heap.size w w' := by
  refine (callsIn_wide (n := 9)).1 ?_
  refine callsIn_of_wp_marks Tryz.func57 rfl trivial ?_ rfl
  simp only [Tryz.ntmps57, List.size_toArray, List.length_cons, List.length_nil, Nat.reduceAdd, Nat.reduceSub, Array.replicate_succ, Array.replicate_zero, List.push_toArray, List.append_toArray, List.nil_append, List.cons_append]
  obtain ⟨w0, hw0⟩ : ∃ w0, w.alloc (.cells #[.bool false] 4) = w0 := ⟨_, rfl⟩
  have hB0 : Below w.heap.size w w0 := by rw [← hw0]; exact (Below.refl _ w).alloc (Nat.le_refl _) _
  have hs0 : w0.heap.size = w.heap.size + 1 := by rw [← hw0]; simp
  have hlt1 : 0 < w.heap.size := by
    refine Nat.lt_of_not_le fun hle => ?_
    unfold World.cell? at hm
    rw [Array.getElem?_eq_none (by exact hle)] at hm
    cases hm
  have hm0 : w0.cell? ⟨0, 0, none⟩ = some (.int .i64 m) := (hB0.cell (p := ⟨0, 0, none⟩) hlt1).trans hm
  have f128 : Fence.wide.fn 97 := trivial
  have f129 : Fence.wide.fn 98 := trivial
  have f130 : Fence.wide.fn 99 := trivial
  have hcon : CallsIn Fence.wide (9 - 1) Tryz.prog 97 #[.string reservedS, .string (spS ++ s ++ spS)] w0 fun e w' => e = .returned (.bool (isReserved s)) ∧ w' = w0 := callsIn_wide.2 (contains_calls s w0 m hm0)
  obtain ⟨r0, hr0'⟩ : ∃ r, isReserved s = r := ⟨_, rfl⟩
  rw [hr0'] at hcon
  have hr0 : w0.heap[w.heap.size]? = some (.cells #[.bool false] 4 (0, 0)) := by rw [← hw0]; exact World.alloc_heap_new w _
  have hc0 : w0.cell? ⟨w.heap.size, 0, none⟩ = some (.bool false) := by simp [World.cell?, hr0]
  have hf0 : w0.frozen? ⟨w.heap.size, 0, none⟩ = false := by simp [World.frozen?, hr0]
  have fin : ∀ {W : World} {b : Bool} {tm : Array Value}, Below w.heap.size w W → W.cell? ⟨w.heap.size, 0, none⟩ = some (.bool b) → b = wordB s → tm[2]? = some (.pointer (some ⟨w.heap.size, 0, none⟩)) →
      bodyPostM Fence.wide 9 Tryz.prog Tryz.f57 (fun e w' => e = .returned (.bool (wordB s)) ∧ Below w.heap.size w w') .ret { tmps := tm, defers := [] } W := by
    rintro W b tm hB hc rfl htm
    refine ⟨.bool (wordB s), ?_, rfl, hB⟩
    simp [results, Tryz.f57, go_sem, htm, hc, asAddr]
  by_cases hsz : 32 < s.size
  · have hx1 : (32 : Int) < (s.size : Int) := by omega
    gi_wp2
    exact fin (hB0.setCell (p := ⟨w.heap.size, 0, none⟩) (Nat.le_refl _) _) (World.cell?_setCell_same' _ _ _ (by rw [hc0]; rfl)) (by simp [wordB]; omega) rfl
  · have hx1 : ¬ (32 : Int) < (s.size : Int) := by omega
    cases r0 with
    | true =>
      gi_wp2_with (gi_at_call 97; refine hcon.mono ?_; clear hcon; rintro e w' ⟨rfl, rfl⟩)
      exact fin (hB0.setCell (p := ⟨w.heap.size, 0, none⟩) (Nat.le_refl _) _) (World.cell?_setCell_same' _ _ _ (by rw [hc0]; rfl)) (by simp [wordB, hr0']) rfl
    | false =>
      gi_wp2_with (first | (gi_at_call 97; refine hcon.mono ?_; clear hcon; rintro e w' ⟨rfl, rfl⟩) | (gi_at_call 98; refine (callsIn_wide.2 (splitSeq_calls s _)).mono ?_; rintro e w1 ⟨rfl, hw1⟩))
      obtain ⟨w1, hw1⟩ : ∃ x, ((w'.alloc (.cells #[.string s] 9)).alloc (.cells #[.string ⟨#[46]⟩] 9)).alloc (.cells #[.int .i64 0] 3) = x := ⟨_, rfl⟩
      rw [hw1]
      have hs1 : w1.heap.size = w.heap.size + 4 := by rw [← hw1]; simp; omega
      have hB1 : Below w.heap.size w w1 := by
        rw [← hw1]
        exact ((hB0.alloc (by omega) _).alloc (by simp; omega) _).alloc (by simp; omega) _
      have hl1 : ∀ k, k < w'.heap.size → w1.heap[k]? = w'.heap[k]? := fun k hk => by
        rw [← hw1]
        exact ((Below.heap_alloc _ _ _ (by simp; omega)).trans (Below.heap_alloc _ _ _ (by simp; omega))).trans (Below.heap_alloc _ _ _ hk)
      have hq0 : w1.heap[w.heap.size + 1]? = some (.cells #[.string (strOf s.data.toList)] 9 (0, 0)) := by
        rw [← hw1, strOf_data, ← hs0]
        exact ((Below.heap_alloc _ _ _ (by simp; omega)).trans (Below.heap_alloc _ _ _ (by simp))).trans (World.alloc_heap_new w' _)
      have hq1 : w1.heap[w.heap.size + 1 + 1]? = some (.cells #[.string ⟨#[46]⟩] 9 (0, 0)) := by
        rw [← hw1, ← hs0]
        refine (Below.heap_alloc _ _ _ (by simp)).trans ?_
        have := World.alloc_heap_new (w'.alloc (.cells #[.string s] 9)) (.cells #[.string ⟨#[46]⟩] 9)
        rwa [World.size_alloc] at this
      have hq2 : w1.heap[w.heap.size + 1 + 2]? = some (.cells #[.int .i64 0] 3 (0, 0)) := by
        rw [← hw1, ← hs0]
        have := World.alloc_heap_new ((w'.alloc (.cells #[.string s] 9)).alloc (.cells #[.string ⟨#[46]⟩] 9)) (.cells #[.int .i64 0] 3)
        rwa [World.size_alloc, World.size_alloc] at this
      have hr1 : w1.heap[w.heap.size]? = some (.cells #[.bool false] 4 (0, 0)) := (hl1 _ (by omega)).trans hr0
      have hcr : ∀ {W : World}, W.heap[w.heap.size]? = some (.cells #[.bool false] 4 (0, 0)) → W.cell? ⟨w.heap.size, 0, none⟩ = some (.bool false) ∧ W.frozen? ⟨w.heap.size, 0, none⟩ = false := fun h => ⟨by simp [World.cell?, h], by simp [World.frozen?, h]⟩
      refine wpIn_rangeSplit (s := s.data.toList) (p0 := w.heap.size + 1) (by omega) rfl (by rw [← size_list]; omega) hq0 hq1 hq2 rfl
        (fun pre W => ((pre.all partB = true ∧ W.heap[w.heap.size]? = some (.cells #[.bool false] 4 (0, 0))) ∧ w.heap.size + 4 ≤ W.heap.size) ∧ Below w.heap.size w W)
        (fun pre W => (pre.all partB = false ∧ W.cell? ⟨w.heap.size, 0, none⟩ = some (.bool false)) ∧ Below w.heap.size w W)
        ?hI ?hIx ?hIs ⟨⟨⟨rfl, hr1⟩, by omega⟩, hB1⟩
        (fun x => { tmps := #[.string s, undef, .pointer (some ⟨w.heap.size, 0, none⟩), .string (strOf x), .string s, .int .i64 s.size, .bool false, .bool false, .string s, .string (⟨#[32]⟩ ++ s), .string (⟨#[32]⟩ ++ s ++ ⟨#[32]⟩), .bool false, .bool false, .string s, .func (.func 158) #[] #[.pointer (some ⟨w.heap.size + 1 + 1, 0, none⟩), .pointer (some ⟨w.heap.size + 1, 0, none⟩), .pointer (some ⟨w.heap.size + 1 + 2, 0, none⟩)], .string (strOf x), undef, undef, undef], defers := [] }) ?assign ?body ?done ?stop
      case hI =>
        refine OwnFrom.and (Own.from (fun s A B row hs hg hr => ⟨⟨hs.1.1, (grownBy_keeps_cells hg hr hs.1.2 rfl).trans hs.1.2⟩, Nat.le_trans hs.2 hg.size⟩) _) (ownFrom_below (Nat.le_refl _) (by omega))
      case hIx =>
        refine OwnFrom.and (Own.from (fun s A B row hs hg hr => ⟨hs.1, cell_kept hs.2 hg hr⟩) _) (ownFrom_below (Nat.le_refl _) (by omega))
      case hIs =>
        rintro pre W v ⟨⟨⟨h1, h2⟩, h4⟩, h3⟩
        exact ⟨⟨⟨h1, (Below.heap_setCell W _ _ _ (by simp)).trans h2⟩, by simpa [World.setCell] using h4⟩, h3.setCell (p := ⟨w.heap.size + 1, 0, none⟩) (by simp) _⟩
      case assign =>
        intro l x W K hK
        gi_wp2
        exact hK
      case body =>
        rintro l pre x W hxl ⟨⟨⟨hp, hc⟩, hz⟩, hB⟩
        have hd : 1 ≤ 9 - 1 - 1 := by omega
        have hpc := part_calls x (by rw [← size_list] at hxl; omega) W
        obtain ⟨b, hb⟩ : ∃ b, partB x = b := ⟨_, rfl⟩
        rw [hb] at hpc
        have hall : (pre ++ [x]).all partB = b := by simp [hp, hb]
        cases b with
        | true =>
          gi_wp2_with (gi_at_call 99; refine (CallsIn.inRound l (callsIn_wide.2 hpc)).mono ?_; clear hpc; rintro e w2 ⟨rfl, hb2⟩)
          exact ⟨keeps_below hb2, fun k hk1 hk2 => hb2.block k (by omega), ⟨⟨hall, (hb2.block _ (by omega)).trans hc⟩, Nat.le_trans hz hb2.size⟩, hB.trans (hb2.mono (by omega))⟩
        | false =>
          gi_wp2_with (gi_at_call 99; refine (CallsIn.inRound l (callsIn_wide.2 hpc)).mono ?_; clear hpc; rintro e w2 ⟨rfl, hb2⟩; have hc2 := hcr ((hb2.block _ (by omega)).trans hc); have hc3 := hc2.1; have hc4 := hc2.2)
          exact ⟨(keeps_below hb2).trans (KeepsOthers.setCell _ _ _), ⟨hall, World.cell?_setCell_same' _ _ _ (by rw [hc3]; rfl)⟩, (hB.trans (hb2.mono (by omega))).setCell (p := ⟨w.heap.size, 0, none⟩) (Nat.le_refl _) _⟩
      case done =>
        rintro D W hD ⟨⟨⟨hp, hc⟩, hz⟩, hB⟩ hK
        have hcW := (hcr hc).1
        have hfW := (hcr hc).2
        gi_wp2
        have hK' := (KeepsOthers.setCell W ⟨w.heap.size, 0, none⟩ (.bool true)).same D _ hK rfl
        refine ⟨by simp, .inl ⟨_, _, rfl, run_takeDeferred hK', ?_⟩⟩
        have hc5 := cell_kept (World.cell?_setCell_same' W ⟨w.heap.size, 0, none⟩ (.bool true) (by rw [hcW]; rfl)) (grownBy_putObj' _ D (.deferred none)) (fun r e => by cases e; exact ⟨_, hK', rfl⟩)
        refine ⟨.bool true, by simp [results, Tryz.f57, go_sem, hc5, asAddr], by simp [wordB, hr0', hp]; omega, ?_⟩
        exact (hB.setCell (p := ⟨w.heap.size, 0, none⟩) (Nat.le_refl _) _).trans (belowK_b (w := w1) (by omega) _ D _ _ hD hK' rfl rfl)
      case stop =>
        rintro D pre x r W hD hsp ⟨⟨hp, hc⟩, hB⟩ hK
        gi_wp2
        refine ⟨by simp, .inl ⟨_, _, rfl, run_takeDeferred hK, ?_⟩⟩
        have hc5 := cell_kept hc (grownBy_putObj' _ D (.deferred none)) (fun r e => by cases e; exact ⟨_, hK, rfl⟩)
        refine ⟨.bool false, by simp [results, Tryz.f57, go_sem, hc5, asAddr], ?_, ?_⟩
        · have : (splitDot s.data.toList).all partB = false := by
            rw [hsp]
            simp only [List.all_append, List.all_cons, List.all_nil, Bool.and_true] at hp ⊢
            rw [← Bool.and_assoc, hp]
            rfl
          simp [wordB, this]
        · exact hB.trans (belowK_b (w := w1) (by omega) _ D _ _ hD hK rfl rfl)
/-- The variable bytealg.MaxLen holds a number. -/
def ML (w : World) : Prop := ∃ m, w.cell? ⟨0, 0, none⟩ = some (.int .i64 m)
theorem ML.up : Sym.Up ML := Sym.Up.ex fun m => Sym.Up.cell _ _
theorem word_pc (s : ByteArray) : Sym.PCall Tryz.prog 57 [.string s] ML (fun r => r = .bool (wordB s)) (fun _ _ => True) :=
  Sym.pcall_val ML ML.up ⟨_, Tryz.func57, by kernel_rfl, rfl⟩ fun w h => (by obtain ⟨m, hm⟩ := h; exact word_calls s w m hm)
end Go.Proofs.YtmkpiekbpakigaaGreatDoor
end
section
set_option linter.unusedVariables false
set_option linter.unusedSimpArgs false
namespace Go.Proofs.YtmkpiekbpakigaaGreatDoor
open Go.RowKit Go.Proofs.Base Go.Proofs.Sym
def noText (s : ByteArray) : Bool := decide (s = ⟨#[]⟩)
def numberedB (k n : Int) (s : ByteArray) (vars : Int) : Bool :=
  if k = 1 then decide (0 ≤ n) && (decide (n < vars) && noText s)
  else if k = 4 then decide (n = 0) && wordB s
  else if k = 9 then decide (0 ≤ n) && (decide (n ≤ 31) && wordB s)
  else decide (n = 0) && noText s
theorem numbered_pc (k n : Int) (s : ByteArray) (la : Option Addr) (lc : Nat) (ls : List Lv) (aa : Option Addr) (ac : Nat) (us : List TT) (vars : Int) : PCall Tryz.prog 134 [(TT.mk k n s la lc ls aa ac us).val, .int .i64 vars] ML (fun r => r = .bool (numberedB k n s vars)) (fun _ _ => True) := by
  have hw := word_pc s
  obtain ⟨wb, hwb⟩ : ∃ b, wordB s = b := ⟨_, rfl⟩
  rw [hwb] at hw
  refine pcall_of tabOk 56 [.tmp 4] Tryz.func134 rfl rfl (by kernel_rfl) rfl _ (Nat.le_of_ble_eq_true rfl) ML.up (fun _ => Up.true) ?_
  refine svc_ok tabOk [] _ _ _ ?_
  refine bsplit_i (fun hk => ?_) (fun hk => ?_)
  · have hk : decide (k = 1) = true := hk
    have hk := of_decide_eq_true hk
    have hsp : numberedB k n s vars = (decide (0 ≤ n) && (decide (n < vars) && noText s)) := by rw [numberedB, if_pos hk]
    rw [hsp]
    refine bsplit_i (fun h1 => ?_) (fun h1 => ?_)
    · have h1 : decide (0 ≤ n) = true := h1
      refine bsplit_i (fun h2 => ?_) (fun h2 => ?_)
      · have h2 : decide (n < vars) = true := h2
        exact ⟨_, rfl, Told.val (by rw [h1, h2]; rfl)⟩
      · have h2 : decide (n < vars) = false := h2
        exact ⟨_, rfl, Told.val (by rw [h1, h2]; rfl)⟩
    · have h1 : decide (0 ≤ n) = false := h1
      exact ⟨_, rfl, Told.val (by rw [h1]; rfl)⟩
  have hk : decide (k = 1) = false := hk
  have hk1 := of_decide_eq_false hk
  refine bsplit_i (fun hk => ?_) (fun hk => ?_)
  · have hk : decide (k = 4) = true := hk
    have hk := of_decide_eq_true hk
    have hsp : numberedB k n s vars = (decide (n = 0) && wb) := by rw [numberedB, if_neg hk1, if_pos hk, hwb]
    rw [hsp]
    refine bsplit_i (fun h1 => ?_) (fun h1 => ?_)
    · have h1 : decide (n = 0) = true := h1
      refine callVC_plain hw (fun _ => rfl) (fun w h => h.1) ?_
      rintro r rfl
      exact ⟨_, rfl, Told.val (by rw [h1]; rfl)⟩
    · have h1 : decide (n = 0) = false := h1
      exact ⟨_, rfl, Told.val (by rw [h1]; rfl)⟩
  have hk : decide (k = 4) = false := hk
  have hk2 := of_decide_eq_false hk
  refine bsplit_i (fun hk => ?_) (fun hk => ?_)
  · have hk : decide (k = 9) = true := hk
    have hk := of_decide_eq_true hk
    have hsp : numberedB k n s vars = (decide (0 ≤ n) && (decide (n ≤ 31) && wb)) := by rw [numberedB, if_neg hk1, if_neg hk2, if_pos hk, hwb]
    rw [hsp]
    refine bsplit_i (fun h1 => ?_) (fun h1 => ?_)
    · have h1 : decide (0 ≤ n) = true := h1
      refine bsplit_i (fun h2 => ?_) (fun h2 => ?_)
      · have h2 : decide (n ≤ 31) = true := h2
        refine callVC_plain hw (fun _ => rfl) (fun w h => h.1) ?_
        rintro r rfl
        exact ⟨_, rfl, Told.val (by rw [h1, h2]; rfl)⟩
      · have h2 : decide (n ≤ 31) = false := h2
        exact ⟨_, rfl, Told.val (by rw [h1, h2]; rfl)⟩
    · have h1 : decide (0 ≤ n) = false := h1
      exact ⟨_, rfl, Told.val (by rw [h1]; rfl)⟩
  have hk : decide (k = 9) = false := hk
  have hk3 := of_decide_eq_false hk
  have hsp : numberedB k n s vars = (decide (n = 0) && noText s) := by rw [numberedB, if_neg hk1, if_neg hk2, if_neg hk3]
  rw [hsp]
  refine bsplit_i (fun h1 => ?_) (fun h1 => ?_)
  · have h1 : decide (n = 0) = true := h1
    exact ⟨_, rfl, Told.val (by rw [h1]; rfl)⟩
  · have h1 : decide (n = 0) = false := h1
    exact ⟨_, rfl, Told.val (by rw [h1]; rfl)⟩
end Go.Proofs.YtmkpiekbpakigaaGreatDoor
end
section
set_option linter.unusedVariables false
set_option linter.unusedSimpArgs false
namespace Go.Proofs.YtmkpiekbpakigaaGreatDoor
open Go.RowKit Go.Proofs.Base Go.Proofs.Sym
/-- May a node be so? -/
def nodeB (k n : Int) (s : ByteArray) (ls : List Lv) (len : Int) (p v d : Int) : Bool :=
  !decide (k < 1) && (!decide (9 < k) && (!decide (200 < d) && (decide (len = argOf k) && (numberedB k n s v && leveledB k ls p))))
mutual
def allT (p v d : Int) : Tm → Bool
  | .mk k n s ls args => nodeB k n s ls args.length p v d && allTs k p v d 0 args
def allTs (k p v d : Int) : Nat → List Tm → Bool
  | _, [] => true
  | i, t :: r => allT p (IntKind.i64.wrap (v + deepI k i)) (IntKind.i64.wrap (d + deepI k i)) t && allTs k p v d (i + 1) r
end
theorem tt_tm (k n : Int) (s : ByteArray) (la : Option Addr) (lc : Nat) (ls : List Lv) (aa : Option Addr) (ac : Nat) (us : List TT) : (TT.mk k n s la lc ls aa ac us).tm = .mk k n s ls (us.map TT.tm) := by
  rw [TT.tm]
def allTb : List Nat := [0, 1, 3, 7, 15, 31, 63, 127, 255, 511, 1023, 2047, 4095, 8191, 16383, 32767, 8191, 8191, 139263, 466943, 991231, 2097151, 4194303, 8388607, 16777215, 16777215, 67108863, 134217727, 268435455, 536870911, 1073741823, 1073741823, 4294967295, 8589934591, 17179869183]
set_option maxHeartbeats 4000000 in
theorem all_pc (p v d : Int) (t : TT) : PCall Tryz.prog 96 [t.val, .int .i64 p, .int .i64 v, .int .i64 d] (fun w => ML w ∧ TTIn w t) (fun r => r = .bool (allT p v d t.tm)) (fun _ _ => True) := by
  induction hsz : SizeOf.sizeOf t using Nat.strongRecOn generalizing t v d with
  | _ z ih =>
  obtain ⟨k, n, s, la, lc, ls, aa, ac, us⟩ := t
  subst hsz
  by_cases hal : us.length ≤ 9223372036854775807 ∧ ls.length ≤ 9223372036854775807
  rotate_left
  · refine ⟨enters Tryz.func96 (by kernel_rfl) (by kernel_rfl), fun _ => Up.true, fun w H hH hp => ?_⟩
    have := hp.2.node
    have h1 := this.hac
    have h2 := this.ham
    have h3 := this.hlc
    have h4 := this.hlm
    simp only [maxLen] at h2 h4
    omega
  obtain ⟨hal, hll⟩ := hal
  have hup : Up fun w => ML w ∧ TTIn w (.mk k n s la lc ls aa ac us) := ML.up.and (TTIn.upS _)
  have hnum := numbered_pc k n s la lc ls aa ac us v
  have hlev := fun h1 h9 => leveled_pc k n s la lc ls aa ac us p h1 h9 hll
  have hpart := form_part k
  have hspec : allT p v d (TT.mk k n s la lc ls aa ac us).tm = (nodeB k n s ls us.length p v d && allTs k p v d 0 (us.map TT.tm)) := by
    rw [tt_tm, allT, List.length_map]
  rw [hspec]
  refine pcall_of tabOk 70 [.tmp 8] Tryz.func96 rfl rfl (by kernel_rfl) rfl _ (Nat.le_of_ble_eq_true rfl) hup (fun _ => Up.true) ?_
  refine svc_ok tabOk [] _ _ _ ?_
  by_cases c1 : k < 1
  · have e1 : decide (k < 1) = true := decide_eq_true c1
    have hno : (nodeB k n s ls us.length p v d && allTs k p v d 0 (us.map TT.tm)) = false := by unfold nodeB; rw [e1]; rfl
    rw [hno]
    refine .inl ⟨35, allTb, fun vs i => match i with
      | 3 => { b := some true }
      | _ => {}, by kernel_rfl, rfl, by kernel_rfl, by kernel_rfl, by kernel_rfl, by decide, fun vals => ?_⟩
    refine ⟨fun _ => e1, ?_⟩
    intro _
    exact ⟨_, rfl, Told.val rfl⟩
  have e1 : decide (k < 1) = false := decide_eq_false c1
  by_cases c2 : 9 < k
  · have e2 : decide (9 < k) = true := decide_eq_true c2
    have hno : (nodeB k n s ls us.length p v d && allTs k p v d 0 (us.map TT.tm)) = false := by unfold nodeB; rw [e1, e2]; rfl
    rw [hno]
    refine .inl ⟨35, allTb, fun vs i => match i with
      | 3 => { b := some false }
      | 8 => { b := some true }
      | _ => {}, by kernel_rfl, rfl, by kernel_rfl, by kernel_rfl, by kernel_rfl, by decide, fun vals => ?_⟩
    refine ⟨fun _ => e1, ?_⟩
    refine ⟨fun _ => e2, ?_⟩
    intro _
    exact ⟨_, rfl, Told.val rfl⟩
  have e2 : decide (9 < k) = false := decide_eq_false c2
  by_cases c3 : 200 < d
  · have e3 : decide (200 < d) = true := decide_eq_true c3
    have hno : (nodeB k n s ls us.length p v d && allTs k p v d 0 (us.map TT.tm)) = false := by unfold nodeB; rw [e1, e2, e3]; rfl
    rw [hno]
    refine .inl ⟨35, allTb, fun vs i => match i with
      | 3 => { b := some false }
      | 8 => { b := some false }
      | 12 => { b := some true }
      | _ => {}, by kernel_rfl, rfl, by kernel_rfl, by kernel_rfl, by kernel_rfl, by decide, fun vals => ?_⟩
    refine ⟨fun _ => e1, ?_⟩
    refine ⟨fun _ => e2, ?_⟩
    refine ⟨fun _ => e3, ?_⟩
    intro _
    exact ⟨_, rfl, Told.val rfl⟩
  have e3 : decide (200 < d) = false := decide_eq_false c3
  have hlt : k.toNat < 10 := by omega
  have hpart := hpart (by omega) (by omega)
  by_cases c4 : (us.length : Int) = argOf k
  rotate_left
  · have e4 : (!decide ((us.length : Int) = argOf k)) = true := by rw [decide_eq_false c4]; rfl
    have e4' := decide_eq_false c4
    have hno : (nodeB k n s ls us.length p v d && allTs k p v d 0 (us.map TT.tm)) = false := by unfold nodeB; rw [e1, e2, e3, e4']; rfl
    rw [hno]
    refine .inl ⟨35, allTb, fun vs i => match i with
      | 3 => { b := some false }
      | 8 => { b := some false }
      | 12 => { b := some false }
      | 16 => { R := fun r => r = formsVal, nf := fun _ => formsVal }
      | 19 => { c := { n := k.toNat, u := some (formSV k) } }
      | 23 => { b := some true }
      | _ => {}, by kernel_rfl, rfl, by kernel_rfl, by kernel_rfl, by kernel_rfl, by decide, fun vals => ?_⟩
    refine ⟨fun _ => e1, ?_⟩
    refine ⟨fun _ => e2, ?_⟩
    refine ⟨fun _ => e3, ?_⟩
    refine ⟨fun _ => ⟨forms_pc, fun _ _ => trivial, fun _ h => h⟩, ?_⟩
    refine ⟨fun _ => ⟨(Int.toNat_of_nonneg (by omega)).symm, hlt, hpart _ rfl rfl⟩, ?_⟩
    refine ⟨fun _ => e4, ?_⟩
    intro _
    exact ⟨_, rfl, Told.val rfl⟩
  have e4 : (!decide ((us.length : Int) = argOf k)) = false := by rw [decide_eq_true c4]; rfl
  have e4' := decide_eq_true c4
  obtain ⟨b5, hb5⟩ : ∃ b, numberedB k n s v = b := ⟨_, rfl⟩
  rw [hb5] at hnum
  cases b5 with
  | false =>
    have e5 : (!false) = true := rfl
    have hno : (nodeB k n s ls us.length p v d && allTs k p v d 0 (us.map TT.tm)) = false := by unfold nodeB; rw [e1, e2, e3, e4', hb5]; rfl
    rw [hno]
    refine .inl ⟨35, allTb, fun vs i => match i with
      | 3 => { b := some false }
      | 8 => { b := some false }
      | 12 => { b := some false }
      | 16 => { R := fun r => r = formsVal, nf := fun _ => formsVal }
      | 19 => { c := { n := k.toNat, u := some (formSV k) } }
      | 23 => { b := some false }
      | 26 => { pre := ML, R := fun r => r = .bool false, nf := fun _ => .bool false }
      | 29 => { b := some true }
      | _ => {}, by kernel_rfl, rfl, by kernel_rfl, by kernel_rfl, by kernel_rfl, by decide, fun vals => ?_⟩
    refine ⟨fun _ => e1, ?_⟩
    refine ⟨fun _ => e2, ?_⟩
    refine ⟨fun _ => e3, ?_⟩
    refine ⟨fun _ => ⟨forms_pc, fun _ _ => trivial, fun _ h => h⟩, ?_⟩
    refine ⟨fun _ => ⟨(Int.toNat_of_nonneg (by omega)).symm, hlt, hpart _ rfl rfl⟩, ?_⟩
    refine ⟨fun _ => e4, ?_⟩
    refine ⟨fun _ => ⟨hnum, fun _ h => h.2.1.1, fun _ h => h⟩, ?_⟩
    refine ⟨fun _ => e5, ?_⟩
    intro _
    exact ⟨_, rfl, Told.val rfl⟩
  | true =>
  have e5 : (!true) = false := rfl
  obtain ⟨b6, hb6⟩ : ∃ b, leveledB k ls p = b := ⟨_, rfl⟩
  have hlev := fun h1 h9 => hlev h1 h9
  rw [hb6] at hlev
  cases b6 with
  | false =>
    have hno : (nodeB k n s ls us.length p v d && allTs k p v d 0 (us.map TT.tm)) = false := by unfold nodeB; rw [e1, e2, e3, e4', hb5, hb6]; rfl
    rw [hno]
    refine .inl ⟨35, allTb, fun vs i => match i with
      | 3 => { b := some false }
      | 8 => { b := some false }
      | 12 => { b := some false }
      | 16 => { R := fun r => r = formsVal, nf := fun _ => formsVal }
      | 19 => { c := { n := k.toNat, u := some (formSV k) } }
      | 23 => { b := some false }
      | 26 => { pre := ML, R := fun r => r = .bool true, nf := fun _ => .bool true }
      | 29 => { b := some false }
      | 32 => { pre := fun w => TTIn w (TT.mk k n s la lc ls aa ac us), R := fun r => r = .bool false, nf := fun _ => .bool false }
      | _ => {}, by kernel_rfl, rfl, by kernel_rfl, by kernel_rfl, by kernel_rfl, by decide, fun vals => ?_⟩
    refine ⟨fun _ => e1, ?_⟩
    refine ⟨fun _ => e2, ?_⟩
    refine ⟨fun _ => e3, ?_⟩
    refine ⟨fun _ => ⟨forms_pc, fun _ _ => trivial, fun _ h => h⟩, ?_⟩
    refine ⟨fun _ => ⟨(Int.toNat_of_nonneg (by omega)).symm, hlt, hpart _ rfl rfl⟩, ?_⟩
    refine ⟨fun _ => e4, ?_⟩
    refine ⟨fun _ => ⟨hnum, fun _ h => h.2.1.1, fun _ h => h⟩, ?_⟩
    refine ⟨fun _ => e5, ?_⟩
    refine ⟨fun _ => ⟨hlev (by omega) (by omega), fun _ h => h.2.2.1.2, fun _ h => h⟩, ?_⟩
    intro _
    exact ⟨_, rfl, Told.val rfl⟩
  | true =>
  have hyes : (nodeB k n s ls us.length p v d && allTs k p v d 0 (us.map TT.tm)) = allTs k p v d 0 (us.map TT.tm) := by unfold nodeB; rw [e1, e2, e3, e4', hb5, hb6]; rfl
  rw [hyes]
  refine .inl ⟨35, allTb, fun vs i => match i with
      | 3 => { b := some false }
      | 8 => { b := some false }
      | 12 => { b := some false }
      | 16 => { R := fun r => r = formsVal, nf := fun _ => formsVal }
      | 19 => { c := { n := k.toNat, u := some (formSV k) } }
      | 23 => { b := some false }
      | 26 => { pre := ML, R := fun r => r = .bool true, nf := fun _ => .bool true }
      | 29 => { b := some false }
      | 32 => { pre := fun w => TTIn w (TT.mk k n s la lc ls aa ac us), R := fun r => r = .bool true, nf := fun _ => .bool true }
      | _ => {}, by kernel_rfl, rfl, by kernel_rfl, by kernel_rfl, by kernel_rfl, by decide, fun vals => ?_⟩
  refine ⟨fun _ => e1, ?_⟩
  refine ⟨fun _ => e2, ?_⟩
  refine ⟨fun _ => e3, ?_⟩
  refine ⟨fun _ => ⟨forms_pc, fun _ _ => trivial, fun _ h => h⟩, ?_⟩
  refine ⟨fun _ => ⟨(Int.toNat_of_nonneg (by omega)).symm, hlt, hpart _ rfl rfl⟩, ?_⟩
  refine ⟨fun _ => e4, ?_⟩
  refine ⟨fun _ => ⟨hnum, fun _ h => h.2.1.1, fun _ h => h⟩, ?_⟩
  refine ⟨fun _ => e5, ?_⟩
  refine ⟨fun _ => ⟨hlev (by omega) (by omega), fun _ h => h.2.2.1.2, fun _ h => h⟩, ?_⟩
  intro _
  refine ⟨⟨Nat, fun j => j ≤ us.length ∧ allTs k p v d j ((us.map TT.tm).drop j) = allTs k p v d 0 (us.map TT.tm),
    fun j => { s := [(1, .one (.v (.int .i64 p))), (2, .one (.v (.int .i64 v))), (3, .one (.v (.int .i64 d))), (4, .one (.p 0 0)), (48, .one (.v (.slice aa us.length ac))), (49, .one (.v (.int .i64 (us.length : Int)))), (50, .one (.v (.int .i64 (j : Int))))], m := [(0, .cells 25 ((TT.mk k n s la lc ls aa ac us).cells.map SA.v))], k := 1, f := [fun w => ML w ∧ TTIn w (TT.mk k n s la lc ls aa ac us)] },
    fun j => us.length - j, ⟨0, ⟨Nat.zero_le _, rfl⟩, ?_⟩, ?_⟩⟩
  · exact ent_ren [(0, .blk 0)] rfl rfl rfl rfl (Nat.zero_le _) ⟨⟨_, rfl, rfl⟩, ⟨_, rfl, rfl⟩, ⟨_, rfl, rfl⟩, ⟨_, rfl, rfl⟩, ⟨_, rfl, rfl⟩, ⟨_, rfl, rfl⟩, ⟨_, rfl, rfl⟩, trivial⟩ ⟨⟨_, rfl, rfl⟩, trivial⟩ ⟨⟨hup, fun w h => h.2.2.2.1⟩, trivial⟩
  rintro j ⟨hj, hA⟩
  refine bsplit_i (fun hlt => ?_) (fun hge => ?_)
  · have hlt : j < us.length := by
      have h : decide ((j : Int) < (us.length : Int)) = true := hlt
      have := of_decide_eq_true h
      omega
    obtain ⟨u, hu⟩ : ∃ u, us[j]? = some u := ⟨_, List.getElem?_eq_getElem hlt⟩
    have hmem := List.mem_of_getElem? hu
    have hrec := ih _ (tt_size hmem) (IntKind.i64.wrap (v + deepI k j)) (IntKind.i64.wrap (d + deepI k j)) u rfl
    have hstep : allTs k p v d 0 (us.map TT.tm) = (allT p (IntKind.i64.wrap (v + deepI k j)) (IntKind.i64.wrap (d + deepI k j)) u.tm && allTs k p v d (j + 1) ((us.map TT.tm).drop (j + 1))) := by
      rw [← hA, List.drop_eq_getElem_cons (by simpa using hlt), allTs]
      simp [(List.getElem?_eq_some_iff.1 hu).2]
    obtain ⟨uk, un, uname, ula, ulc, uls, uaa, uac, uus⟩ := u
    obtain ⟨b, hb⟩ : ∃ b, allT p (IntKind.i64.wrap (v + deepI k j)) (IntKind.i64.wrap (d + deepI k j)) (TT.mk uk un uname ula ulc uls uaa uac uus).tm = b := ⟨_, rfl⟩
    rw [hb] at hrec hstep
    refine ⟨{ n := j }, ⟨rfl, hlt, fun w h => ?_⟩, ?_⟩
    · obtain ⟨⟨a, ha, _⟩, _⟩ := h.1.2.arg hu
      rw [ha]
      rfl
    refine ⟨{ cs := (TT.mk uk un uname ula ulc uls uaa uac uus).cells }, ⟨TT.cells_one (TT.mk uk un uname ula ulc uls uaa uac uus), rfl, fun w h => ?_⟩, ?_⟩
    · obtain ⟨⟨a, ha, hc⟩, _⟩ := h.1.2.arg hu
      exact ⟨_, by rw [ha]; rfl, hc⟩
    refine callVC_plain (deeper_pc k j) (fun _ => rfl) (fun _ _ => trivial) ?_
    rintro r rfl
    refine callVC_plain hrec (fun _ => rfl) (fun w h => ⟨h.2.1.1, (h.2.1.2.arg hu).2⟩) ?_
    rintro r rfl
    cases b with
    | false => exact ⟨_, rfl, Told.val (by rw [hstep]; rfl)⟩
    | true =>
      refine ⟨j + 1, ⟨hlt, by rw [hstep]; rfl⟩, by simp only; omega, ?_⟩
      exact ent_ren [(0, .blk 0)] rfl rfl rfl rfl (Nat.zero_le _) ⟨⟨_, rfl, rfl⟩, ⟨_, rfl, rfl⟩, ⟨_, rfl, rfl⟩, ⟨_, rfl, rfl⟩, ⟨_, rfl, rfl⟩, ⟨_, rfl, rfl⟩, ⟨_, rfl, oneI (wrapI (by omega) (by omega))⟩, trivial⟩ ⟨⟨_, rfl, rfl⟩, trivial⟩ ⟨⟨hup, fun w h => h.2.2.1⟩, trivial⟩
  · have hge : us.length ≤ j := by
      have h : decide ((j : Int) < (us.length : Int)) = false := hge
      have := of_decide_eq_false h
      omega
    exact ⟨_, rfl, Told.val (by rw [← hA, List.drop_eq_nil_of_le (by simpa using hge)]; simp [allTs])⟩
end Go.Proofs.YtmkpiekbpakigaaGreatDoor
end
