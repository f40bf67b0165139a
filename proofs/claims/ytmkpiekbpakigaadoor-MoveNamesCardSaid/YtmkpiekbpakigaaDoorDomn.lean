/- What the claim needs of Ms1, Own6, Nm1, Nm2, Nm3, Ra, Rb, Rc, Rd0, in one text. -/
import Derived.Test.YtmkpiekbpakigaaDoorDomg
import Derived.Test.YtmkpiekbpakigaaDoorDomh
import Derived.Test.YtmkpiekbpakigaaDoorDomk
import Derived.Test.YtmkpiekbpakigaaDoorDomm
section
set_option linter.unusedVariables false
set_option linter.unusedSimpArgs false
namespace Go.Proofs.YtmkpiekbpakigaaDoor
open Go.RowKit Go.Proofs.Base Go.Proofs.Sym
def zT : TT := zba 0 0 ⟨#[]⟩
theorem zabn (w : World) : TTIn w zT := zeo w (I64.small _ (by decide) (by decide)) (I64.small _ (by decide) (by decide)) (by decide)
def qOk (o : Option Tm) (q : Bool × TT) : Prop := match o with
 | none => q = (false, zT)
 | some u => q.1 = true /\ q.2.tm = u
def qRes (q : Bool × TT) : LRes := { v := .tup [.agg (q.2.cells.map SA.v), .one (.v (.bool q.1))], m := [], k := 0, F := fun w => TTIn w q.2 }
end Go.Proofs.YtmkpiekbpakigaaDoor
namespace Go.Proofs.Sym
open Go.RowKit Go.Proofs.Base Go.Proofs.YtmkpiekbpakigaaDoor
theorem zav.q {P : Program} {f : FuncId} {args : List SV} {m : List (Nat × LB)} {b : Nat} {pre : World -> Prop} {o : Option Tm} (h : zav P f args m b pre (ze5 (some o)) (zb7 (some o))) : zav P f args m b pre (qOk o) qRes := by
 cases o with
 | none => exact zav.told h h.up (fun w h => h) (fun _ => (false, zT)) (fun _ _ => rfl) (fun x _ => ⟨fun w => TTIn w zT, TTIn.upS _, fun w _ => zabn w, rfl⟩)
 | some u => exact zav.told h h.up (fun w h => h) (fun x => (true, x)) (fun x hx => ⟨rfl, hx⟩) (fun x _ => ⟨fun w => TTIn w x, TTIn.upS _, fun w h => h, rfl⟩)
end Go.Proofs.Sym
namespace Go.Proofs.YtmkpiekbpakigaaDoor
open Go.RowKit Go.Proofs.Base Go.Proofs.Sym
theorem amG.snoc {ys : List TT} {y : TT} {w : World} (h : amG ys w) (hy : TTIn w y) : amG (ys ++ [y]) w := ⟨h.1, fun z hz => by
 rcases List.mem_append.1 hz with hz | hz
 ·exact h.2 z hz
 ·rw [List.mem_singleton.1 hz]
  exact hy⟩
end Go.Proofs.YtmkpiekbpakigaaDoor
end
section
set_option linter.unusedVariables false
set_option linter.unusedSimpArgs false
namespace Go.Proofs.YtmkpiekbpakigaaDoor
open Go.ChangeShapes Go.WideShapes Go.ChangeAt Go.RowKit Go.Proofs.Base Go.Proofs.Sym
mutual
theorem zu2 : ∀ t : TT, TTB t -> tmB t.tm
 | .mk k n s la lc ls aa ac us, h => by
  unfold TTB at h
  rw [zbs]
  unfold tmB
  refine ⟨h.1, ?_, ?_⟩
  ·rw [List.length_map]
   exact h.2.1
  ·exact zqg us h.2.2
theorem zqg : ∀ us : List TT, TTBs us -> tmBs (us.map TT.tm)
 | [], _ => by
  show tmBs []
  unfold tmBs
  trivial
 | u :: r, h => by
  unfold TTBs at h
  show tmBs (u.tm :: r.map TT.tm)
  unfold tmBs
  exact ⟨zu2 u h.1, zqg r h.2⟩
end
section
variable {H : Type} {enc : TypeId × Value -> H} {w : World} {base : Nat} {sp : Nat -> Bool} {held : Bool}
set_option maxRecDepth 100000 in
theorem zmz {r : Reach} {b0 : Nat} {v : Value} {d : DataW H} {ps : List MemPlace} (hval : Value.okWide Tryd.prog w r b0 41 v) (h : DataW.Trod enc Tryd.prog w base sp held 41 v d ps) (hw : WtOk 41 d) : ∃ t : TT, v = t.val /\ TTIn w t /\ TTB t := by
 obtain ⟨cs, rfl, hsz⟩ := okWide_struct Tryd.underlying41 hval
 obtain ⟨fuel, hf⟩ := h
 obtain ⟨t, hc, ht, hb⟩ := zy3 _ _ _ hf hw
 obtain ⟨cs⟩ := cs
 simp only [Value.cells] at hc
 exact ⟨t, by rw [show cs = t.cells from hc]; rfl, ht, hb⟩
end
theorem zzn {f : FuncId} {args : List Value} {pre : World -> Prop} (h : PCall Tryd.prog f args pre (fun r => r = .bool true) (fun _ _ => True)) (hu : Up pre) (w : World) (hp : pre w) : Calls Tryd.prog f args.toArray w fun e w' => e = .returned (.bool true) /\ Below w.heap.size w w' :=
 (h.run w (fun _ => False) (fun _ h => h.elim) (hu _ _ (fun g o hg ho => by rw [zcx, hg]; simp) hp)).mono fun en w' ⟨r, h1, h2, _, h4⟩ => ⟨by rw [h1, h2], h4⟩
end Go.Proofs.YtmkpiekbpakigaaDoor
end
section
set_option linter.unusedVariables false
set_option linter.unusedSimpArgs false
namespace Go.Proofs.YtmkpiekbpakigaaDoor
open Go.RowKit Go.Proofs.Base Go.Proofs.Sym
def ze0 (k : Int) (s : ByteArray) : List ByteArray := if k = 4 \/ k = 9 then [s] else []
mutual
def zb2 : Tm -> List ByteArray
 | .mk k _ s _ us => ze0 k s ++ zb6 us
def zb6 : List Tm -> List ByteArray
 | [] => []
 | u :: r => zb2 u ++ zb6 r
end
mutual
theorem zfv : ∀ t : Tm, (zb2 t).length <= za8 t
 | .mk k n s ls us => by
  have := zjk us
  rw [zb2, za8, List.length_append]
  unfold ze0
  split
  ·simp; omega
  ·simp; omega
theorem zjk : ∀ us : List Tm, (zb6 us).length <= zbf us
 | [] => by rw [zb6, zbf]; simp
 | u :: r => by
  have := zfv u
  have := zjk r
  rw [zb6, zbf, List.length_append]
  omega
end
def strC (l : List ByteArray) : List Value := l.map Value.string
def zie (t : Tm) (L : Int) (q : Option Addr × Nat) : LRes := { v := .one (.v (.slice q.1 (zb2 t).length q.2)), m := [(0, .cells 3 [.v (.int .i64 (L - za8 t))])], k := 1, F := fun w => SsIn w q.1 q.2 (zb2 t) }
def zyi (n : Nat) (q : Option Addr × Nat) : Prop := q.1 = none -> n = 0 /\ q.2 = 0
set_option maxHeartbeats 4000000 in
theorem zwn (t : TT) (L : Int) (hs : (za8 t.tm : Int) <= L) (hL : L <= 3000) : zav Tryd.prog 93 [ttA t, .one (.sl 0 0 1 1)] [(0, .cells 3 [.v (.int .i64 L)])] 1 (fun w => TTIn w t) (zyi (zb2 t.tm).length) (zie t.tm L) := by
 induction hsz : SizeOf.sizeOf t using Nat.strongRecOn generalizing t L with
 | _ z ih =>
 obtain ⟨k, n, s, la, lc, ls, aa, ac, us⟩ := t
 subst hsz
 have hsz : za8 (TT.mk k n s la lc ls aa ac us).tm = 1 + ls.length + zbf (us.map TT.tm) := by rw [zbs, za8]
 have hnm : zb2 (TT.mk k n s la lc ls aa ac us).tm = ze0 k s ++ zb6 (us.map TT.tm) := by rw [zbs, zb2]
 have hnl := zfv (TT.mk k n s la lc ls aa ac us).tm
 have hul := zfx (us.map TT.tm)
 rw [List.length_map] at hul
 obtain ⟨N, hN⟩ : ∃ N, zb2 (TT.mk k n s la lc ls aa ac us).tm = N := ⟨_, rfl⟩
 obtain ⟨Z, hZ⟩ : ∃ Z, za8 (TT.mk k n s la lc ls aa ac us).tm = Z := ⟨_, rfl⟩
 unfold zie
 rw [hN] at hnm hnl ⊢
 rw [hZ] at hsz hnl hs ⊢
 clear hN hZ
 refine zas zac 52 [.tmp 4] Tryd.func93 rfl rfl (by kernel_rfl) rfl _ (leB rfl) (TTIn.upS _) ?_
 refine zaf zac [3] _ _ _ ?_
 refine .inl ⟨9, [0, 1, 3, 0, 8, 24, 56, 127, 255, 511], fun vs i => {}, by kernel_rfl, rfl, by kernel_rfl, by kernel_rfl, by kernel_rfl, by decide, fun vals => ?_⟩
 refine ⟨fun _ => ⟨rfl, Nat.one_pos⟩, ?_⟩
 refine ⟨fun _ => ⟨rfl, Nat.one_pos⟩, ?_⟩
 intro _
 have hw : IntKind.i64.wrap (L - IntKind.i64.wrap (1 + (ls.length : Int))) = L - (1 + (ls.length : Int)) := by rw [za9 (n := 1 + (ls.length : Int)) (by omega) (by omega), za9 (by omega) (by omega)]
 obtain ⟨L1, hL1⟩ : ∃ L1, IntKind.i64.wrap (L - IntKind.i64.wrap (1 + (ls.length : Int))) = L1 := ⟨_, rfl⟩
 rw [hL1] at hw
 refine zai.ent (st' := { s := [(1, .one (.sl 0 0 1 1)), (2, .one (.p 1 0)), (5, .one (.sl 2 0 0 0))], m := [(0, .cells 3 [.v (.int .i64 L1)]), (1, .cells 41 ((TT.mk k n s la lc ls aa ac us).cells.map SA.v)), (2, .cells 9 [])], k := 3, f := [fun w => TTIn w (TT.mk k n s la lc ls aa ac us)], b := 1 }) (zaa [(0, .blk 0), (1, .blk 1), (2, .blk 2)] rfl rfl rfl rfl (leB rfl) (rs rfl rfl) ⟨⟨_, rfl, by rw [<- hL1]; rfl⟩, ⟨_, rfl, rfl⟩, ⟨_, rfl, rfl⟩, trivial⟩ ⟨⟨TTIn.upS _, fun w h => h.1⟩, trivial⟩) ?_
 clear hL1
 refine zaf zac [5] _ _ _ ?_
 refine ⟨{ n := 0 }, ⟨rfl, by decide⟩, ?_⟩
 refine zad (fun h => ?_) (fun h => ?_)
 ·have h : decide (L1 < 0) = true := h
  have := of_decide_eq_true h
  omega
 clear h
 refine zai.cutX (X := Unit) (fun _ => True) (fun _ => { s := [(1, .one (.sl 0 0 1 1)), (2, .one (.p 1 0)), (5, .one (.row 2))], m := [(0, .cells 3 [.v (.int .i64 L1)]), (1, .cells 41 ((TT.mk k n s la lc ls aa ac us).cells.map SA.v)), (2, .own 9 1 (ze0 k s).length (strC (ze0 k s)))], k := 3, f := [fun w => TTIn w (TT.mk k n s la lc ls aa ac us)], b := 1 }) ?_ (fun _ _ => ?_)
 ·refine zaf zac [] _ _ _ ?_
  have yes : k = 4 \/ k = 9 -> ze0 k s = [s] := fun h => if_pos h
  refine zad (fun h4 => ?_) (fun h4 => ?_)
  ·have h : decide (k = 4) = true := h4
   refine ⟨{}, ⟨trivial, Nat.one_pos, .inr rfl, by decide, by decide⟩, ?_⟩
   rw [yes (.inl (of_decide_eq_true h))]
   exact ⟨(), trivial, zaa [(0, .blk 0), (1, .blk 1), (2, .own 4)] rfl rfl rfl rfl (leB rfl) ⟨⟨_, rfl, rfl⟩, ⟨_, rfl, rfl⟩, ⟨_, rfl, rfl⟩, trivial⟩ ⟨⟨_, rfl, rfl⟩, ⟨_, rfl, rfl⟩, ⟨_, _, rfl, rfl, rfl⟩, trivial⟩ ⟨⟨TTIn.upS _, fun w h => h.1⟩, trivial⟩⟩
  ·refine zad (fun h9 => ?_) (fun h9 => ?_)
   ·have h : decide (k = 9) = true := h9
    refine ⟨{}, ⟨trivial, Nat.one_pos, .inr rfl, by decide, by decide⟩, ?_⟩
    rw [yes (.inr (of_decide_eq_true h))]
    exact ⟨(), trivial, zaa [(0, .blk 0), (1, .blk 1), (2, .own 4)] rfl rfl rfl rfl (leB rfl) ⟨⟨_, rfl, rfl⟩, ⟨_, rfl, rfl⟩, ⟨_, rfl, rfl⟩, trivial⟩ ⟨⟨_, rfl, rfl⟩, ⟨_, rfl, rfl⟩, ⟨_, _, rfl, rfl, rfl⟩, trivial⟩ ⟨⟨TTIn.upS _, fun w h => h.1⟩, trivial⟩⟩
   ·have h : decide (k = 4) = false := h4
    have h' : decide (k = 9) = false := h9
    have e : ze0 k s = [] := if_neg (fun x => x.elim (of_decide_eq_false h) (of_decide_eq_false h'))
    rw [e]
    exact ⟨(), trivial, zaa [(0, .blk 0), (1, .blk 1), (2, .lit 2 0)] rfl rfl rfl rfl (leB rfl) ⟨⟨_, rfl, rfl⟩, ⟨_, rfl, rfl⟩, ⟨_, rfl, rfl⟩, trivial⟩ ⟨⟨_, rfl, rfl⟩, ⟨_, rfl, rfl⟩, ⟨rfl, by decide, _, rfl, rfl, rfl⟩, trivial⟩ ⟨⟨TTIn.upS _, fun w h => h.1⟩, trivial⟩⟩
 refine zaf zac [11] _ _ _ ?_
 refine ⟨⟨Nat × List ByteArray × Int, fun q => q.1 <= us.length /\ q.2.1 ++ zb6 ((us.map TT.tm).drop q.1) = N /\ q.2.2 = L - Z + zbf ((us.map TT.tm).drop q.1), fun q => { s := [(5, .one (.row 2)), (6, .one (.v (.int .i64 (q.1 : Int)))), (1, .one (.sl 0 0 1 1)), (2, .one (.p 1 0))], m := [(0, .cells 3 [.v (.int .i64 q.2.2)]), (1, .cells 41 ((TT.mk k n s la lc ls aa ac us).cells.map SA.v)), (2, .own 9 1 q.2.1.length (strC q.2.1))], k := 3, f := [fun w => TTIn w (TT.mk k n s la lc ls aa ac us)], b := 1 }, fun q => us.length - q.1, ⟨(0, ze0 k s, L1), ⟨Nat.zero_le _, hnm.symm, by show L1 = _; rw [List.drop_zero]; omega⟩, zaa [(0, .blk 0), (1, .blk 1), (2, .own 2)] rfl rfl rfl rfl (leB rfl) (rs rfl rfl) ⟨⟨_, rfl, rfl⟩, ⟨_, rfl, rfl⟩, ⟨_, _, rfl, rfl, rfl⟩, trivial⟩ ⟨⟨TTIn.upS _, fun w h => h.1⟩, trivial⟩⟩, ?_⟩⟩
 rintro ⟨j, acc, Lj⟩ ⟨hj, hA, hLj⟩
 have hj : j <= us.length := hj
 have hA : acc ++ zb6 ((us.map TT.tm).drop j) = N := hA
 have hLj : Lj = L - Z + zbf ((us.map TT.tm).drop j) := hLj
 refine zad (fun hlt => ?_) (fun hge => ?_)
 rotate_left
 ·have hge : us.length <= j := by
   have h : decide ((j : Int) < (us.length : Int)) = false := hge
   have := of_decide_eq_false h
   omega
  rw [List.drop_eq_nil_of_le (by simpa using hge)] at hA hLj
  have hA : acc ++ [] = N := by rw [zb6] at hA; exact hA
  rw [List.append_nil] at hA
  subst hA
  have hLj : Lj = L - Z := by rw [zbf] at hLj; simpa using hLj
  subst hLj
  refine zai.freeze2 2 rfl (fun A' cp' g0 g1 g2 g3 => ?_)
  refine zaf zac [] _ _ _ ?_
  exact ⟨_, rfl, (A', cp'), g1, rfl, zaa [(0, .blk 0)] rfl rfl rfl rfl (leB rfl) (rs rfl rfl) (rm rfl rfl) ⟨⟨SsIn.up _ _ _, fun w h => ⟨h.1, g1, g2, g3⟩⟩, trivial⟩⟩
 have hlt : j < us.length := by
  have h : decide ((j : Int) < (us.length : Int)) = true := hlt
  have := of_decide_eq_true h
  omega
 obtain ⟨u, hu⟩ : ∃ u, us[j]? = some u := ⟨_, List.getElem?_eq_getElem hlt⟩
 have hmem := List.mem_of_getElem? hu
 have hdr : (us.map TT.tm).drop j = u.tm :: (us.map TT.tm).drop (j + 1) := by
  rw [List.drop_eq_getElem_cons (i := j) (by simpa using hlt)]
  simp [(List.getElem?_eq_some_iff.1 hu).2]
 rw [hdr, zb6] at hA
 rw [hdr, zbf] at hLj
 have hul2 := zfv u.tm
 have hlen : acc.length + (zb2 u.tm).length <= N.length := by
  rw [<- hA, List.length_append, List.length_append]
  omega
 have hZL := zfx ((us.map TT.tm).drop (j + 1))
 have hrec := ih _ (zd5 hmem) u Lj (by omega) (by
  have : zbf (us.map TT.tm) = zbf ((us.map TT.tm).take j) + zbf ((us.map TT.tm).drop j) := by
   have key : ∀ a b : List Tm, zbf (a ++ b) = zbf a + zbf b := by
    intro a
    induction a with
    | nil => intro b; simp [zbf]
    | cons x a ih => intro b; rw [List.cons_append, zbf, zbf, ih]; omega
   rw [<- key, List.take_append_drop]
  rw [hdr, zbf] at this
  omega) rfl
 have hst : acc ++ zb2 u.tm ++ zb6 ((us.map TT.tm).drop (j + 1)) = N := by rw [List.append_assoc]; exact hA
 have hst2 : Lj - za8 u.tm = L - Z + zbf ((us.map TT.tm).drop (j + 1)) := by omega
 obtain ⟨M, hM⟩ : ∃ M, zb2 u.tm = M := ⟨_, rfl⟩
 obtain ⟨S, hS⟩ : ∃ S, za8 u.tm = S := ⟨_, rfl⟩
 unfold zie at hrec
 rw [hM, hS] at hrec
 rw [hM] at hst hlen
 rw [hS] at hst2
 clear hM hS
 obtain ⟨uk, un, uname, ula, ulc, uls, uaa, uac, uus⟩ := u
 refine ⟨{ n := j }, ⟨rfl, hlt, fun w h => ?_⟩, ?_⟩
 ·obtain ⟨⟨a, ha, _⟩, _⟩ := h.1.arg hu
  rw [ha]
  rfl
 refine ⟨{ cs := (TT.mk uk un uname ula ulc uls uaa uac uus).cells }, ⟨TT.cells_one (TT.mk uk un uname ula ulc uls uaa uac uus), rfl, fun w h => ?_⟩, ?_⟩
 ·obtain ⟨⟨a, ha, hc⟩, _⟩ := h.1.arg hu
  exact ⟨_, by rw [ha]; rfl, hc⟩
 refine zab [0] hrec rfl ⟨rfl, trivial⟩ rfl rfl (fun w h => (h.1.arg hu).2) (fun _ _ => ⟨rfl, rfl⟩) (fun q hq => ?_)
 have hq : q.1 = none -> M.length = 0 /\ q.2 = 0 := hq
 refine ⟨{ cs := strC M }, ⟨⟨by simp [strC], fun u hu => ?_, hq, fun w h j u hj => ?_⟩, Nat.one_pos, .inr rfl, ?_, ?_⟩, ?_⟩
 ·obtain ⟨x, _, rfl⟩ := List.mem_map.1 hu
  rfl
 ·exact h.1.cells j u hj
 ·simp only [maxLen]; omega
 ·show (acc.length + M.length) * 16 <= 140737488355328
  omega
 refine ⟨(j + 1, acc ++ M, Lj - S), ⟨hlt, hst, hst2⟩, by simp only; omega, ?_⟩
 exact zaa [(0, .blk 0), (1, .blk 1), (2, .own 3)] rfl rfl rfl rfl (leB rfl) ⟨⟨_, rfl, rfl⟩, ⟨_, rfl, oneI (za9 (by omega) (by omega))⟩, ⟨_, rfl, rfl⟩, ⟨_, rfl, rfl⟩, trivial⟩ ⟨⟨_, rfl, rfl⟩, ⟨_, rfl, rfl⟩, ⟨_, _, rfl, by simp, by simp [strC]⟩, trivial⟩ ⟨⟨TTIn.upS _, fun w h => h.2.1⟩, trivial⟩
end Go.Proofs.YtmkpiekbpakigaaDoor
end
section
set_option linter.unusedVariables false
set_option linter.unusedSimpArgs false
namespace Go.Proofs.YtmkpiekbpakigaaDoor
open Go.RowKit Go.Proofs.Base Go.Proofs.Sym
theorem zun : ∀ x : List UInt8, Op.bytesLess x x = false
 | [] => rfl
 | a :: x => by
  have := zun x
  simp [Op.bytesLess, this]
theorem zx7 : ∀ x y : List UInt8, Op.bytesLess x y = false -> Op.bytesLess y x = false -> x = y
 | [], [], _, _ => rfl
 | [], _ :: _, h, _ => by simp [Op.bytesLess] at h
 | _ :: _, [], _, h => by simp [Op.bytesLess] at h
 | a :: x, b :: y, h, h' => by
  simp only [Op.bytesLess, Bool.or_eq_false_iff, decide_eq_false_iff_not, Bool.and_eq_false_iff, beq_eq_false_iff_ne] at h h'
  have hab : a = b := by
   have h1 := h.1
   have h2 := h'.1
   rw [UInt8.not_lt] at h1 h2
   exact UInt8.le_antisymm h2 h1
  subst hab
  rw [zx7 x y (h.2.resolve_left (fun e => e rfl)) (h'.2.resolve_left (fun e => e rfl))]
theorem zl0 : ∀ x y z : List UInt8, Op.bytesLess x y = true -> Op.bytesLess y z = true -> Op.bytesLess x z = true
 | [], [], _, h, _ => by simp [Op.bytesLess] at h
 | [], _ :: _, [], _, h => by simp [Op.bytesLess] at h
 | [], _ :: _, _ :: _, _, _ => by simp [Op.bytesLess]
 | _ :: _, [], _, h, _ => by simp [Op.bytesLess] at h
 | _ :: _, _ :: _, [], _, h => by simp [Op.bytesLess] at h
 | a :: x, b :: y, c :: z, h, h' => by
  simp only [Op.bytesLess, Bool.or_eq_true, decide_eq_true_eq, Bool.and_eq_true, beq_iff_eq] at h h' ⊢
  rcases h with h | ⟨rfl, h⟩
  ·rcases h' with h' | ⟨rfl, h'⟩
   ·exact .inl (UInt8.lt_trans h h')
   ·exact .inl h
  ·rcases h' with h' | ⟨rfl, h'⟩
   ·exact .inl h'
   ·exact .inr ⟨rfl, zl0 x y z h h'⟩
def ltS (a b : ByteArray) : Bool := Op.bytesLess a.toList b.toList
def leS (a b : ByteArray) : Bool := Op.bytesLess a.toList b.toList || decide (a = b)
theorem toList_inj {a b : ByteArray} (h : a.toList = b.toList) : a = b := by
 have := zxe a b
 rw [h, beq_self_eq_true] at this
 exact of_decide_eq_true this.symm
theorem lt_of_not_le {a b : ByteArray} (h : leS a b = false) : ltS b a = true := by
 unfold leS at h
 rw [Bool.or_eq_false_iff, decide_eq_false_iff_not] at h
 cases hb : ltS b a with
 | true => rfl
 | false => exact absurd (toList_inj (zx7 _ _ h.1 hb)) h.2
theorem zabz {a b c : ByteArray} (h : leS a b = true) (h' : ltS b c = true) : ltS a c = true := by
 unfold leS at h
 rw [Bool.or_eq_true, decide_eq_true_eq] at h
 rcases h with h | rfl
 ·exact zl0 _ _ _ h h'
 ·exact h'
theorem le_of_lt {a b : ByteArray} (h : ltS a b = true) : leS a b = true := by
 unfold leS
 rw [show Op.bytesLess a.toList b.toList = true from h]
 rfl
def zb8 (out : List ByteArray) (x : ByteArray) : Bool := match out.getLast? with
 | none => true
 | some l => !leS x l
structure zm8 (ss out : List ByteArray) : Prop where
 sub : ∀ x ∈ out, x ∈ ss
 all : ∀ x ∈ ss, zb8 out x = false -> x ∈ out
 len : out.length + (ss.filter (zb8 out)).length <= ss.length
def zdw (out xs : List ByteArray) : Option ByteArray -> Prop
 | none => ∀ x ∈ xs, zb8 out x = false
 | some y => y ∈ xs /\ zb8 out y = true /\ ∀ x ∈ xs, zb8 out x = true -> ltS x y = false
theorem zvz {ss out : List ByteArray} (h : zm8 ss out) (hn : zdw out ss none) : ∀ x, x ∈ out ↔ x ∈ ss :=
 fun x => ⟨h.sub x, fun hx => h.all x hx (hn x hx)⟩
theorem zew (out : List ByteArray) (y x : ByteArray) : zb8 (out ++ [y]) x = !leS x y := by
 unfold zb8
 rw [List.getLast?_append]
 rfl
theorem zm5 {α : Type} {p q : α -> Bool} {y : α} : ∀ {l : List α}, (∀ x ∈ l, q x = true -> p x = true) -> y ∈ l -> p y = true -> q y = false -> (l.filter q).length + 1 <= (l.filter p).length
 | a :: r, h, hy, hp, hq => by
  have hmono : ∀ {l : List α}, (∀ x ∈ l, q x = true -> p x = true) -> (l.filter q).length <= (l.filter p).length := by
   intro l
   induction l with
   | nil => intro _; simp
   | cons b s ih =>
    intro h
    have ih := ih fun x hx => h x (List.mem_cons_of_mem _ hx)
    cases hqb : q b with
    | true => simp [hqb, h b List.mem_cons_self hqb]; omega
    | false => cases hpb : p b <;> simp [hqb, hpb] <;> omega
  rcases List.mem_cons.1 hy with rfl | hy
  ·have := hmono fun x hx => h x (List.mem_cons_of_mem _ hx)
   simp [hp, hq]
   omega
  ·have ih := zm5 (fun x hx => h x (List.mem_cons_of_mem _ hx)) hy hp hq
   cases hqa : q a with
   | true => simp [hqa, h a List.mem_cons_self hqa]; omega
   | false => cases hpa : p a <;> simp [hqa, hpa] <;> omega
theorem zt7 {ss out : List ByteArray} {y : ByteArray} (h : zm8 ss out) (hn : zdw out ss (some y)) : zm8 ss (out ++ [y]) /\ (ss.filter (zb8 (out ++ [y]))).length < (ss.filter (zb8 out)).length := by
 obtain ⟨h1, h2, h3⟩ := hn
 have hlt : (ss.filter (zb8 (out ++ [y]))).length + 1 <= (ss.filter (zb8 out)).length := by
  refine zm5 (fun x hx hb => ?_) h1 h2 ?_
  ·rw [zew] at hb
   cases hb2 : zb8 out x with
   | true => rfl
   | false =>
    unfold zb8 at h2 hb2
    split at hb2
    ·cases hb2
    ·rename_i l hl
     rw [hl] at h2
     simp only [Bool.not_eq_true', Bool.not_eq_false'] at h2 hb2 hb
     rw [le_of_lt (zabz hb2 (lt_of_not_le h2))] at hb
     cases hb
  ·rw [zew]
   unfold leS
   simp
 refine ⟨⟨fun x hx => ?_, fun x hx hb => ?_, ?_⟩, hlt⟩
 ·rcases List.mem_append.1 hx with hx | hx
  ·exact h.sub x hx
  ·rw [List.mem_singleton.1 hx]
   exact h1
 ·rw [zew, Bool.not_eq_false'] at hb
  cases hbo : zb8 out x with
  | false => exact List.mem_append_left _ (h.all x hx hbo)
  | true =>
   have h4 := h3 x hx hbo
   unfold leS at hb
   rw [show Op.bytesLess x.toList y.toList = false from h4, Bool.false_or, decide_eq_true_eq] at hb
   rw [hb]
   exact List.mem_append_right _ List.mem_cons_self
 ·have := h.len
  rw [List.length_append]
  simp only [List.length_cons, List.length_nil]
  omega
theorem zve (ss : List ByteArray) : zm8 ss [] := by
 refine ⟨fun x hx => (by cases hx), fun x _ h => (by simp [zb8] at h), ?_⟩
 have := List.length_filter_le (zb8 []) ss
 simpa using this
theorem zuc {out xs : List ByteArray} {x : ByteArray} {nx : Option ByteArray} (h : zdw out xs nx) (hb : zb8 out x = false) : zdw out (xs ++ [x]) nx := by
 cases nx with
 | none =>
  intro z hz
  rcases List.mem_append.1 hz with hz | hz
  ·exact h z hz
  ·rw [List.mem_singleton.1 hz]; exact hb
 | some y =>
  obtain ⟨h1, h2, h3⟩ := h
  refine ⟨List.mem_append_left _ h1, h2, fun z hz hbz => ?_⟩
  rcases List.mem_append.1 hz with hz | hz
  ·exact h3 z hz hbz
  ·rw [List.mem_singleton.1 hz, hb] at hbz; cases hbz
theorem zkc {out xs : List ByteArray} {x : ByteArray} (h : zdw out xs none) (hb : zb8 out x = true) : zdw out (xs ++ [x]) (some x) := by
 refine ⟨List.mem_append_right _ List.mem_cons_self, hb, fun z hz hbz => ?_⟩
 rcases List.mem_append.1 hz with hz | hz
 ·rw [h z hz] at hbz; cases hbz
 ·rw [List.mem_singleton.1 hz]; exact zun _
theorem znf {out xs : List ByteArray} {x y : ByteArray} (h : zdw out xs (some y)) (hb : zb8 out x = true) (hlt : ltS x y = true) : zdw out (xs ++ [x]) (some x) := by
 obtain ⟨h1, h2, h3⟩ := h
 refine ⟨List.mem_append_right _ List.mem_cons_self, hb, fun z hz hbz => ?_⟩
 rcases List.mem_append.1 hz with hz | hz
 ·cases hzx : ltS z x with
  | false => rfl
  | true =>
   have := zl0 _ _ _ hzx hlt
   rw [show Op.bytesLess z.toList y.toList = false from h3 z hz hbz] at this
   cases this
 ·rw [List.mem_singleton.1 hz]; exact zun _
theorem zmn {out xs : List ByteArray} {x y : ByteArray} (h : zdw out xs (some y)) (hlt : ltS x y = false) : zdw out (xs ++ [x]) (some y) := by
 obtain ⟨h1, h2, h3⟩ := h
 refine ⟨List.mem_append_left _ h1, h2, fun z hz hbz => ?_⟩
 rcases List.mem_append.1 hz with hz | hz
 ·exact h3 z hz hbz
 ·rw [List.mem_singleton.1 hz]; exact hlt
end Go.Proofs.YtmkpiekbpakigaaDoor
end
section
set_option linter.unusedVariables false
set_option linter.unusedSimpArgs false
namespace Go.Proofs.YtmkpiekbpakigaaDoor
open Go.RowKit Go.Proofs.Base Go.Proofs.Sym
def zxt (out : List ByteArray) : LRes := { v := .one (.row 0), m := [(0, .own 9 1 out.length (strC out))], k := 1 }
def zaba (A : Option Addr) (c : Nat) (ss out : List ByteArray) : St := { s := [(0, .one (.v (.slice A ss.length c))), (3, .one (.row 0))], m := [(0, .own 9 1 out.length (strC out))], k := 1, f := [fun w => SsIn w A c ss] }
def zyg (A : Option Addr) (c : Nat) (ss out : List ByteArray) (i : Nat) (nx : Option ByteArray) : St := { s := [(6, .one (.v (.int .i64 (i : Int)))), (4, .one (.v (.bool nx.isSome))), (5, .one (.v (.string (nx.getD ⟨#[]⟩)))), (0, .one (.v (.slice A ss.length c))), (3, .one (.row 0))], m := [(0, .own 9 1 out.length (strC out))], k := 1, f := [fun w => SsIn w A c ss] }
set_option maxHeartbeats 4000000 in
theorem zyd (A : Option Addr) (c : Nat) (ss : List ByteArray) (hn : ss.length <= 3000) : zav Tryd.prog 92 [.one (.v (.slice A ss.length c))] [] 0 (fun w => SsIn w A c ss) (fun out : List ByteArray => (∀ x, x ∈ out ↔ x ∈ ss) /\ out.length <= ss.length) zxt := by
 refine zas zac 51 [.tmp 2] Tryd.func92 rfl rfl (by kernel_rfl) rfl _ (leB rfl) (SsIn.up _ _ _) ?_
 refine zaf zac [8] _ _ _ ?_
 refine ⟨⟨List ByteArray, zm8 ss, zaba A c ss, fun out => (ss.filter (zb8 out)).length, ⟨[], zve ss, zaa [(0, .lit 0 0)] rfl rfl rfl rfl (leB rfl) (rs rfl rfl) ⟨⟨rfl, by decide, _, rfl, rfl, rfl⟩, trivial⟩ ⟨⟨SsIn.up _ _ _, fun w h => h.1⟩, trivial⟩⟩, ?_⟩⟩
 intro out hout
 have hol := hout.len
 refine ⟨⟨Nat × Option ByteArray, fun q => q.1 <= ss.length /\ zdw out (ss.take q.1) q.2, fun q => zyg A c ss out q.1 q.2, fun q => ss.length - q.1, ⟨(0, none), ⟨Nat.zero_le _, fun x hx => by simp at hx⟩, zaa [(0, .own 0)] rfl rfl rfl rfl (leB rfl) (rs rfl rfl) ⟨⟨_, _, rfl, rfl, rfl⟩, trivial⟩ ⟨⟨SsIn.up _ _ _, fun w h => h.1⟩, trivial⟩⟩, ?_⟩⟩
 rintro ⟨i, nx⟩ ⟨hi, hnx⟩
 have hi : i <= ss.length := hi
 have hnx : zdw out (ss.take i) nx := hnx
 refine zad (fun hlt0 => ?_) (fun hge0 => ?_)
 rotate_left
 ·have hge : ss.length <= i := by
   have h : decide ((i : Int) < (ss.length : Int)) = false := hge0
   have := of_decide_eq_false h
   omega
  rw [List.take_of_length_le hge] at hnx
  cases nx with
  | none => exact ⟨_, rfl, out, ⟨zvz hout hnx, by omega⟩, rfl, zaa [(0, .own 0)] rfl rfl rfl rfl (leB rfl) (rs rfl rfl) ⟨⟨_, _, rfl, rfl, rfl⟩, trivial⟩ ⟨⟨Up.true, fun _ _ => trivial⟩, trivial⟩⟩
  | some y =>
   obtain ⟨h1, h2⟩ := zt7 hout hnx
   have hl := h1.len
   rw [List.length_append] at hl
   simp only [List.length_cons, List.length_nil] at hl
   refine ⟨{}, ⟨trivial, Nat.one_pos, .inr rfl, ?_, ?_⟩, ?_⟩
   ·show out.length + 1 <= maxLen
    simp only [maxLen]
    omega
   ·show (out.length + 1) * 16 <= 140737488355328
    omega
   exact ⟨out ++ [y], h1, h2, zaa [(0, .own 2)] rfl rfl rfl rfl (leB rfl) (rs rfl rfl) ⟨⟨_, _, rfl, by simp, by simp [strC]⟩, trivial⟩ ⟨⟨SsIn.up _ _ _, fun w h => h.1⟩, trivial⟩⟩
 have hlt : i < ss.length := by
  have h : decide ((i : Int) < (ss.length : Int)) = true := hlt0
  have := of_decide_eq_true h
  omega
 obtain ⟨x, hx⟩ : ∃ x, ss[i]? = some x := ⟨_, List.getElem?_eq_getElem hlt⟩
 have htk : ss.take (i + 1) = ss.take i ++ [x] := by rw [List.take_add_one, hx]; rfl
 have hadd : ∀ (w : World), AllF [fun w => SsIn w A c ss] w -> A.isSome = true := fun w h => by
  obtain ⟨a, ha, _⟩ := h.1.get hx
  rw [ha]
  rfl
 have hcell : ∀ (w : World), AllF [fun w => SsIn w A c ss] w -> ∃ a, Value.pointer (A.map fun a => a.add (i * 1)) = .pointer (some a) /\ w.cell? a = some (.string x) := fun w h => by
  obtain ⟨a, ha, hc⟩ := h.1.get hx
  exact ⟨_, by rw [ha]; rfl, by rw [Nat.mul_one]; exact hc⟩
 have go : ∀ nx', zdw out (ss.take i ++ [x]) nx' -> (i + 1 <= ss.length /\ zdw out (ss.take (i + 1)) nx') /\ ss.length - (i + 1) < ss.length - i := fun nx' h => ⟨⟨hlt, by rw [htk]; exact h⟩, by omega⟩
 rcases List.eq_nil_or_concat out with hnil | ⟨o0, l, hsn⟩
 ·subst hnil
  have hb : zb8 [] x = true := rfl
  refine .inl ⟨15, [0, 1, 3, 7, 15, 15, 63, 127, 15, 15, 527, 1551, 3855, 7951, 16383, 32767], fun vs i => match i with
   | 2 => { b := some false }
   | _ => {}, by kernel_rfl, rfl, by kernel_rfl, by kernel_rfl, by kernel_rfl, by decide, fun vals => ?_⟩
  refine ⟨fun _ => rfl, ?_⟩
  intro _
  refine zai.ent (st' := zyg A c ss [] i nx) (zaa [(0, .own 0)] rfl rfl rfl rfl (leB rfl) (rs rfl rfl) ⟨⟨_, _, rfl, rfl, rfl⟩, trivial⟩ ⟨⟨SsIn.up _ _ _, fun w h => h.1⟩, trivial⟩) ?_
  cases nx with
  | none =>
   refine zaf zac [] _ _ _ ?_
   refine ⟨{ n := i }, ⟨rfl, hlt, hadd⟩, ?_⟩
   refine ⟨{ v := .string x }, hcell, ?_⟩
   obtain ⟨g1, g2⟩ := go _ (zkc hnx hb)
   exact ⟨(i + 1, some x), g1, g2, zaa [(0, .own 0)] rfl rfl rfl rfl (leB rfl) ⟨⟨_, rfl, oneI (za9 (by omega) (by omega))⟩, ⟨_, rfl, rfl⟩, ⟨_, rfl, rfl⟩, ⟨_, rfl, rfl⟩, ⟨_, rfl, rfl⟩, trivial⟩ ⟨⟨_, _, rfl, rfl, rfl⟩, trivial⟩ ⟨⟨SsIn.up _ _ _, fun w h => h.1⟩, trivial⟩⟩
  | some y =>
   refine zaf zac [] _ _ _ ?_
   refine ⟨{ n := i }, ⟨rfl, hlt, hadd⟩, ?_⟩
   refine ⟨{ v := .string x }, hcell, ?_⟩
   refine zad (fun h => ?_) (fun h => ?_)
   ·refine ⟨{ n := i }, ⟨rfl, hlt, hadd⟩, ?_⟩
    refine ⟨{ v := .string x }, hcell, ?_⟩
    obtain ⟨g1, g2⟩ := go _ (znf hnx hb h)
    exact ⟨(i + 1, some x), g1, g2, zaa [(0, .own 0)] rfl rfl rfl rfl (leB rfl) ⟨⟨_, rfl, oneI (za9 (by omega) (by omega))⟩, ⟨_, rfl, rfl⟩, ⟨_, rfl, rfl⟩, ⟨_, rfl, rfl⟩, ⟨_, rfl, rfl⟩, trivial⟩ ⟨⟨_, _, rfl, rfl, rfl⟩, trivial⟩ ⟨⟨SsIn.up _ _ _, fun w h => h.1⟩, trivial⟩⟩
   ·obtain ⟨g1, g2⟩ := go _ (zmn hnx h)
    exact ⟨(i + 1, some y), g1, g2, zaa [(0, .own 0)] rfl rfl rfl rfl (leB rfl) ⟨⟨_, rfl, oneI (za9 (by omega) (by omega))⟩, ⟨_, rfl, rfl⟩, ⟨_, rfl, rfl⟩, ⟨_, rfl, rfl⟩, ⟨_, rfl, rfl⟩, trivial⟩ ⟨⟨_, _, rfl, rfl, rfl⟩, trivial⟩ ⟨⟨SsIn.up _ _ _, fun w h => h.1⟩, trivial⟩⟩
 ·have hlen : out.length = o0.length + 1 := by rw [hsn]; simp
  have hlast : (strC out)[o0.length * 1]? = some (.string l) := by
   rw [hsn]
   simp [strC]
  have hby : ∀ z, zb8 out z = !leS z l := fun z => by rw [hsn, List.concat_eq_append, zew]
  refine .inl ⟨15, [0, 1, 3, 7, 15, 15, 63, 127, 15, 15, 527, 1551, 3855, 7951, 16383, 32767], fun vs j => match j with
   | 2 => { b := some true }
   | 6 => { c := { n := i } }
   | 7 => { c := { v := .string x } }
   | 12 => { c := { n := o0.length } }
   | 13 => { c := { v := .string l } }
   | _ => {}, by kernel_rfl, rfl, by kernel_rfl, by kernel_rfl, by kernel_rfl, by decide, fun vals => ?_⟩
  refine ⟨fun _ => decide_eq_true (by omega), ?_⟩
  refine ⟨fun _ => ⟨rfl, hlt, hadd⟩, ?_⟩
  refine ⟨fun _ => hcell, ?_⟩
  refine ⟨fun _ => ⟨by show IntKind.i64.wrap ((out.length : Int) - 1) = (o0.length : Int); rw [za9 (by omega) (by omega)]; omega, by show o0.length < out.length; omega, rfl⟩, ?_⟩
  refine ⟨fun _ => hlast, ?_⟩
  intro _
  refine zad (fun h => ?_) (fun h => ?_)
  ·have hb : zb8 out x = false := by rw [hby, show leS x l = true from h]; rfl
   obtain ⟨g1, g2⟩ := go _ (zuc hnx hb)
   exact ⟨(i + 1, nx), g1, g2, zaa [(0, .own 0)] rfl rfl rfl rfl (leB rfl) ⟨⟨_, rfl, oneI (za9 (by omega) (by omega))⟩, ⟨_, rfl, rfl⟩, ⟨_, rfl, rfl⟩, ⟨_, rfl, rfl⟩, ⟨_, rfl, rfl⟩, trivial⟩ ⟨⟨_, _, rfl, rfl, rfl⟩, trivial⟩ ⟨⟨SsIn.up _ _ _, fun w h => h.1⟩, trivial⟩⟩
  have hb : zb8 out x = true := by rw [hby, show leS x l = false from h]; rfl
  refine zai.ent (st' := zyg A c ss out i nx) (zaa [(0, .own 0)] rfl rfl rfl rfl (leB rfl) (rs rfl rfl) ⟨⟨_, _, rfl, rfl, rfl⟩, trivial⟩ ⟨⟨SsIn.up _ _ _, fun w h => h.1⟩, trivial⟩) ?_
  cases nx with
  | none =>
   refine zaf zac [] _ _ _ ?_
   refine ⟨{ n := i }, ⟨rfl, hlt, hadd⟩, ?_⟩
   refine ⟨{ v := .string x }, hcell, ?_⟩
   obtain ⟨g1, g2⟩ := go _ (zkc hnx hb)
   exact ⟨(i + 1, some x), g1, g2, zaa [(0, .own 0)] rfl rfl rfl rfl (leB rfl) ⟨⟨_, rfl, oneI (za9 (by omega) (by omega))⟩, ⟨_, rfl, rfl⟩, ⟨_, rfl, rfl⟩, ⟨_, rfl, rfl⟩, ⟨_, rfl, rfl⟩, trivial⟩ ⟨⟨_, _, rfl, rfl, rfl⟩, trivial⟩ ⟨⟨SsIn.up _ _ _, fun w h => h.1⟩, trivial⟩⟩
  | some y =>
   refine zaf zac [] _ _ _ ?_
   refine ⟨{ n := i }, ⟨rfl, hlt, hadd⟩, ?_⟩
   refine ⟨{ v := .string x }, hcell, ?_⟩
   refine zad (fun h => ?_) (fun h => ?_)
   ·refine ⟨{ n := i }, ⟨rfl, hlt, hadd⟩, ?_⟩
    refine ⟨{ v := .string x }, hcell, ?_⟩
    obtain ⟨g1, g2⟩ := go _ (znf hnx hb h)
    exact ⟨(i + 1, some x), g1, g2, zaa [(0, .own 0)] rfl rfl rfl rfl (leB rfl) ⟨⟨_, rfl, oneI (za9 (by omega) (by omega))⟩, ⟨_, rfl, rfl⟩, ⟨_, rfl, rfl⟩, ⟨_, rfl, rfl⟩, ⟨_, rfl, rfl⟩, trivial⟩ ⟨⟨_, _, rfl, rfl, rfl⟩, trivial⟩ ⟨⟨SsIn.up _ _ _, fun w h => h.1⟩, trivial⟩⟩
   ·obtain ⟨g1, g2⟩ := go _ (zmn hnx h)
    exact ⟨(i + 1, some y), g1, g2, zaa [(0, .own 0)] rfl rfl rfl rfl (leB rfl) ⟨⟨_, rfl, oneI (za9 (by omega) (by omega))⟩, ⟨_, rfl, rfl⟩, ⟨_, rfl, rfl⟩, ⟨_, rfl, rfl⟩, ⟨_, rfl, rfl⟩, trivial⟩ ⟨⟨_, _, rfl, rfl, rfl⟩, trivial⟩ ⟨⟨SsIn.up _ _ _, fun w h => h.1⟩, trivial⟩⟩
theorem zvi (t : TT) (hs : za8 t.tm <= 3000) : zav Tryd.prog 43 [ttA t] [] 0 (fun w => TTIn w t) (fun out : List ByteArray => (∀ x, x ∈ out ↔ x ∈ zb2 t.tm) /\ out.length <= 3000) zxt := by
 have h1 := zwn t 3000 (by omega) (by decide)
 have hl := zfv t.tm
 have h2 := fun A c => zyd A c (zb2 t.tm) (by omega)
 unfold zie at h1
 obtain ⟨N, hN⟩ : ∃ N, zb2 t.tm = N := ⟨_, rfl⟩
 rw [hN] at h1 h2 hl ⊢
 obtain ⟨k, n, s, la, lc, ls, aa, ac, us⟩ := t
 refine zas zac 7 [.tmp 2] Tryd.func43 rfl rfl (by kernel_rfl) rfl _ (leB rfl) (TTIn.upS _) ?_
 refine zaf zac [] _ _ _ ?_
 refine zab [1] h1 rfl ⟨rfl, trivial⟩ rfl rfl (fun w h => h.1) (fun _ _ => ⟨rfl, rfl⟩) (fun q hq => ?_)
 refine zab [] (h2 q.1 q.2) rfl trivial rfl rfl (fun w h => h.1) (fun _ _ => ⟨rfl, rfl⟩) (fun out hout => ?_)
 have hout : (∀ x, x ∈ out ↔ x ∈ N) /\ out.length <= N.length := hout
 exact ⟨_, rfl, out, ⟨hout.1, by omega⟩, rfl, zaa [(0, .own 2)] rfl rfl rfl rfl (leB rfl) (rs rfl rfl) ⟨⟨_, _, rfl, rfl, rfl⟩, trivial⟩ ⟨⟨Up.true, fun _ _ => trivial⟩, trivial⟩⟩
end Go.Proofs.YtmkpiekbpakigaaDoor
end
section
set_option linter.unusedVariables false
set_option linter.unusedSimpArgs false
namespace Go.Proofs.Sym
open Go.RowKit Go.Proofs.Base Go.Proofs.Mono
theorem zai.blk {P : Program} {N : Nat} {c : Code} {K : Exit -> St -> Prop} {st : St} (i : Nat) {t : TypeId} {cs : List SA} {vs : List Value} (hi : get i st.m = some (.cells t cs)) (hp : zcp cs = some vs)
  (h : ∀ g, zai P N c K (sbSt (blkA i g) i (fun w => SlAt w (some ⟨g, 0, none⟩) vs) st)) : zai P N c K st := by
 refine ⟨fun cx e a w hn hS => (h (e.blk i)).run cx e a w hn ⟨hS.base, hS.size, hS.defers, fun t u hu => ?_, ?_⟩⟩
 ·obtain ⟨u0, h1, rfl⟩ := zir hu
  obtain ⟨h2, h3⟩ := hS.slots _ _ h1
  exact ⟨(zet rfl).vlt h2, by rw [h3, (zet rfl).v]⟩
 ·refine hS.mem.spell hi (zet rfl) (SlAt.up _ _) ?_
  intro j u hj
  have hb := zb5 (H := fun g => cx.H g \/ ∃ j, j ≠ i /\ At e st.m j g) (hS.mem.cells i t cs hi) (hS.mem.others ⟨_, hi, rfl⟩)
  refine ⟨_, rfl, ?_⟩
  rw [zbl, cell_of_row _ (e.blk i) (0 + j) _ _ _ hb, zbn e hp]
  simpa using hj
end Go.Proofs.Sym
namespace Go.Proofs.YtmkpiekbpakigaaDoor
open Go.RowKit Go.Proofs.Base Go.Proofs.Sym
def zdg (c : Int) : Bool := (decide (97 <= c) && decide (c <= 122)) || (decide (65 <= c) && decide (c <= 90))
def zm1 (c : Int) : Bool := decide (48 <= c) && decide (c <= 57)
theorem zio (c : UInt8) : zdg (c.toNat : Int) = zds (c.toNat : Int) := by
 have h : ∀ n : Fin 256, zdg (n.val : Int) = zds (n.val : Int) := by decide +kernel
 exact h ⟨c.toNat, c.toNat_lt⟩
def zht (c : Int) : Bool := zdg c || zm1 c || decide (c = 95)
theorem zvg (c : UInt8) : zht (c.toNat : Int) = zm9 (c.toNat : Int) := by
 unfold zht zm9
 rw [zio]
 rfl
def zd6 : Bool -> List UInt8 -> Option Bool
 | b, [] => some b
 | b, c :: r => if (b && !zdg (c.toNat : Int)) = true then none else if c = 46 then zd6 true r else if zht (c.toNat : Int) = true then zd6 false r else none
theorem zv7 : zdg ((46 : UInt8).toNat : Int) = false := by decide
theorem zen {c : Int} (h : zdg c = true) : zht c = true := by
 unfold zht
 rw [h]
 rfl
theorem zp7 : ∀ (l : List UInt8) (x : List UInt8) (xs : List (List UInt8)), za5 l = x :: xs ->
  (decide (zd6 true l = some false) = (zgk x && xs.all zgk)) /\ (decide (zd6 false l = some false) = (zj5 x && xs.all zgk))
 | [], x, xs, h => by
  cases h
  exact ⟨by decide, by decide⟩
 | c :: r, x, xs, h => by
  rw [za5] at h
  cases hr : za5 r with
  | nil => exact absurd hr (zge r)
  | cons y ys =>
  rw [hr] at h
  simp only at h
  obtain ⟨h1, h2⟩ := zp7 r y ys hr
  have hl := zio c
  have hs := zvg c
  by_cases hc : c = 46
  ·subst hc
   rw [if_pos (by decide)] at h
   cases h
   refine ⟨?_, ?_⟩
   ·rw [zd6, if_pos (by rw [zv7]; rfl)]
    rfl
   ·rw [zd6, if_neg (by rw [Bool.false_and]; decide), if_pos rfl, h1]
    rfl
  ·rw [if_neg (by simpa using hc)] at h
   cases h
   refine ⟨?_, ?_⟩
   ·rw [zd6, zgk, <- hl]
    cases hlc : zdg (c.toNat : Int) with
    | false =>
     rw [if_pos (by decide)]
     rfl
    | true =>
     rw [if_neg (by decide), if_neg hc, if_pos (zen hlc), h2, zj5, <- hs, zen hlc]
     rfl
   ·rw [zd6, if_neg (by rw [Bool.false_and]; decide), if_neg hc, zj5, <- hs]
    cases hsc : zht (c.toNat : Int) with
    | false =>
     rw [if_neg (by decide)]
     rfl
    | true =>
     rw [if_pos rfl, h2]
     rfl
def zgw : List UInt8 -> Option (List UInt8)
 | [] => none
 | c :: r => if c = 32 then some [] else (zgw r).map (c :: ·)
def segs : List UInt8 -> List (List UInt8)
 | [] => []
 | b :: r => if b = 32 then (match zgw r with | some x => x :: segs r | none => segs r) else segs r
theorem zld (b : UInt8) (r sub : List UInt8) : Lib.contains (b :: r) sub = (sub.isPrefixOf (b :: r) || Lib.contains r sub) := by
 have := Lib.index_ge r sub
 unfold Lib.contains
 rw [Lib.index]
 cases h : sub.isPrefixOf (b :: r) with
 | true => simp
 | false =>
  rw [if_neg (by decide)]
  by_cases h2 : Lib.index r sub = -1
  ·rw [if_pos (by rw [h2]; rfl), h2]
   rfl
  ·rw [if_neg (by simpa using h2), Bool.false_or]
   rw [decide_eq_decide]
   omega
theorem zg1 : ∀ (l r : List UInt8), (∀ c ∈ l, c ≠ 32) -> (l ++ [32]).isPrefixOf r = decide (zgw r = some l)
 | [], [], _ => by decide
 | [], c :: r, _ => by
  rw [List.nil_append, zgw]
  by_cases hc : c = 32
  ·subst hc
   rw [if_pos rfl]
   cases r <;> rfl
  ·rw [if_neg hc]
   have h1 : ([32] : List UInt8).isPrefixOf (c :: r) = false := by
    simp [List.isPrefixOf]
    exact fun h => hc h.symm
   rw [h1]
   cases zgw r <;> simp
 | x :: l, [], _ => by
  simp [List.isPrefixOf, zgw]
 | x :: l, c :: r, h => by
  have hx := h x List.mem_cons_self
  have ih := zg1 l r (fun c hc => h c (List.mem_cons_of_mem _ hc))
  rw [List.cons_append, List.isPrefixOf, ih, zgw]
  by_cases hc : c = 32
  ·subst hc
   rw [if_pos rfl]
   simp [hx]
  ·rw [if_neg hc]
   cases zgw r with
   | none => simp
   | some y =>
    simp only [Option.map_some, Option.some.injEq, List.cons.injEq]
    by_cases hxc : x = c
    ·subst hxc
     simp
    ·have : (x == c) = false := by simpa using hxc
     rw [this, decide_eq_false (p := c = x /\ y = l) (fun h => hxc h.1.symm)]
     simp
theorem zhf (l : List UInt8) (h : ∀ c ∈ l, c ≠ 32) : ∀ R : List UInt8, Lib.contains R (32 :: (l ++ [32])) = (segs R).any (fun x => decide (x = l))
 | [] => by
  unfold Lib.contains
  rw [Lib.index]
  rfl
 | b :: r => by
  rw [zld, zhf l h r, List.isPrefixOf, zg1 l r h, segs]
  by_cases hb : b = 32
  ·subst hb
   rw [if_pos rfl]
   cases zgw r with
   | none => simp
   | some x => simp
  ·rw [if_neg hb]
   have : ((32 : UInt8) == b) = false := by
    simp
    exact fun h => hb h.symm
   rw [this]
   rfl
def zf7 : List (List UInt8) := [[80, 114, 111, 112], [84, 121, 112, 101], [102, 117, 110], [97, 108, 108], [108, 101, 116], [105, 110], [111, 102], [119, 105, 116, 104], [97, 120, 105, 111, 109], [100, 101, 102], [116, 104, 101, 111, 114, 101, 109], [102, 97, 109, 105, 108, 121], [117, 48], [117, 49], [117, 50], [117, 51]]
theorem zls : segs zjr = zf7 := by decide +kernel
theorem zhr : ∀ (l : List UInt8) (b c : Bool), zd6 b l = some c -> ∀ x ∈ l, x ≠ 32
 | [], _, _, _ => fun x hx => by cases hx
 | d :: r, b, c, h => by
  rw [zd6] at h
  split at h
  ·cases h
  ·intro x hx
   rcases List.mem_cons.1 hx with rfl | hx
   ·rintro rfl
    split at h
    ·rename_i h2
     revert h2
     decide
    ·split at h
     ·rename_i h3
      revert h3
      decide
     ·cases h
   ·split at h
    ·exact zhr r _ _ h x hx
    ·split at h
     ·exact zhr r _ _ h x hx
     ·cases h
def zl9 (l : List UInt8) : Bool := match zd6 true l with
 | none => false
 | some b => !zf7.any (fun x => decide (x = l)) && !b
theorem zu1 (s : ByteArray) : (decide (1 <= s.size) && (decide (s.size <= 32) && zl9 s.data.toList)) = zcd s := by
 obtain ⟨⟨l⟩⟩ := s
 show (decide (1 <= l.length) && (decide (l.length <= 32) && zl9 l)) = (decide (l.length <= 32) && !zdm ⟨⟨l⟩⟩ && (za5 l).all zgk)
 have hres : (∀ c ∈ l, c ≠ 32) -> zdm ⟨⟨l⟩⟩ = zf7.any (fun x => decide (x = l)) := fun h => by
  rw [<- zls, <- zhf l h zjr]
  rfl
 cases hs : za5 l with
 | nil => exact absurd hs (zge l)
 | cons x xs =>
 have h1 := (zp7 l x xs hs).1
 rw [List.all_cons, <- h1]
 have h0 : l = [] -> zd6 true l = some true := fun h => by rw [h]; rfl
 unfold zl9
 cases hw : zd6 true l with
 | none => simp
 | some b =>
  simp only
  rw [hres (zhr l _ _ hw)]
  cases b with
  | true => simp
  | false =>
   have hl : 1 <= l.length := by
    cases l with
    | nil => rw [h0 rfl] at hw; cases hw
    | cons => simp
   rw [decide_eq_true hl]
   simp
end Go.Proofs.YtmkpiekbpakigaaDoor
end
section
set_option linter.unusedVariables false
set_option linter.unusedSimpArgs false
namespace Go.Proofs.YtmkpiekbpakigaaDoor
open Go.RowKit Go.Proofs.Base Go.Proofs.Sym
theorem zrj (c : Int) : PCall Tryd.prog 90 [.int .u8 c] (fun _ => True) (fun r => r = .bool (zdg c)) (fun _ _ => True) := by
 refine zar zac 17 [.tmp 2] Tryd.func90 rfl rfl (by kernel_rfl) rfl _ (leB rfl) Up.true (fun _ => Up.true) ?_
 refine zaf zac [] _ _ _ ?_
 have fin : ∀ b1 b2 b3 b4, decide (97 <= c) = b1 -> decide (c <= 122) = b2 -> decide (65 <= c) = b3 -> decide (c <= 90) = b4 -> zdg c = ((b1 && b2) || (b3 && b4)) := fun b1 b2 b3 b4 h1 h2 h3 h4 => by rw [zdg, h1, h2, h3, h4]
 obtain ⟨b2, e2⟩ : ∃ b, decide (c <= 122) = b := ⟨_, rfl⟩
 obtain ⟨b3, e3⟩ : ∃ b, decide (65 <= c) = b := ⟨_, rfl⟩
 obtain ⟨b4, e4⟩ : ∃ b, decide (c <= 90) = b := ⟨_, rfl⟩
 refine zad (fun h1 => ?_) (fun h1 => ?_)
 ·refine zad (fun h2 => ?_) (fun h2 => ?_)
  ·exact ⟨_, rfl, Told.val (by rw [fin _ _ _ _ h1 h2 e3 e4]; cases b3 <;> cases b4 <;> rfl)⟩
  ·refine zad (fun h3 => ?_) (fun h3 => ?_)
   ·exact ⟨_, rfl, Told.val (by rw [fin _ _ _ _ h1 h2 h3 rfl]; rfl)⟩
   ·exact ⟨_, rfl, Told.val (by rw [fin _ _ _ _ h1 h2 h3 e4]; cases b4 <;> rfl)⟩
 ·refine zad (fun h3 => ?_) (fun h3 => ?_)
  ·exact ⟨_, rfl, Told.val (by rw [fin _ _ _ _ h1 e2 h3 rfl]; cases b2 <;> rfl)⟩
  ·exact ⟨_, rfl, Told.val (by rw [fin _ _ _ _ h1 e2 h3 e4]; cases b2 <;> cases b4 <;> rfl)⟩
theorem ztx (c : Int) : PCall Tryd.prog 91 [.int .u8 c] (fun _ => True) (fun r => r = .bool (zm1 c)) (fun _ _ => True) := by
 refine zar zac 9 [.tmp 2] Tryd.func91 rfl rfl (by kernel_rfl) rfl _ (leB rfl) Up.true (fun _ => Up.true) ?_
 refine zaf zac [] _ _ _ ?_
 refine zad (fun h1 => ?_) (fun h1 => ?_)
 ·have h1 : decide (48 <= c) = true := h1
  exact ⟨_, rfl, Told.val (by rw [zm1, h1]; rfl)⟩
 ·have h1 : decide (48 <= c) = false := h1
  exact ⟨_, rfl, Told.val (by rw [zm1, h1]; rfl)⟩
theorem zw1 {L : List UInt8} {j : Nat} (h : j < L.length) (b : Bool) : zd6 b (L.drop j) = (if (b && !zdg ((L.getD j 0).toNat : Int)) = true then none else if L.getD j 0 = 46 then zd6 true (L.drop (j + 1)) else if zht ((L.getD j 0).toNat : Int) = true then zd6 false (L.drop (j + 1)) else none) := by
 rw [List.drop_eq_getElem_cons h, zd6]
 simp [List.getD, List.getElem?_eq_getElem h]
theorem zql {x : List UInt8} {s : ByteArray} : ((⟨x.toArray⟩ : ByteArray) = s) ↔ x = s.data.toList := by
 obtain ⟨⟨l⟩⟩ := s
 constructor
 ·intro h
  cases h
  rfl
 ·rintro rfl
  rfl
def zqf : List Value := zf7.map fun x => .string ⟨x.toArray⟩
theorem zw6 {s : ByteArray} {b : Bool} (h1 : 1 <= s.size) (h2 : s.size <= 32) (hb : zl9 s.data.toList = b) : zcd s = b := by
 rw [<- zu1, decide_eq_true h1, decide_eq_true h2, hb]
 rfl
theorem zkg {L : List UInt8} (h : zd6 true L = none) : zl9 L = false := by
 unfold zl9
 rw [h]
theorem zq4 {L : List UInt8} {b : Bool} (h : zd6 true L = some b) : zl9 L = (!zf7.any (fun x => decide (x = L)) && !b) := by
 unfold zl9
 rw [h]
set_option maxHeartbeats 2000000 in
theorem zqb (s : ByteArray) : PCall Tryd.prog 42 [.string s] (fun _ => True) (fun r => r = .bool (zcd s)) (fun _ _ => True) := by
 refine zar zac 69 [.tmp 2] Tryd.func42 rfl rfl (by kernel_rfl) rfl _ (leB rfl) Up.true (fun _ => Up.true) ?_
 have hsz := zgq s
 have hend := fun b => @zw6 s b
 obtain ⟨W, hW⟩ : ∃ W, zcd s = W := ⟨_, rfl⟩
 have hW1 := (zu1 s).trans hW
 rw [hW] at hend
 rw [hW]
 refine zaf zac [15] _ _ _ ?_
 refine zad (fun h1 => ?_) (fun h1 => ?_)
 ·have h1 : decide ((s.size : Int) < 1) = true := h1
  have h1 := of_decide_eq_true h1
  rw [decide_eq_false (by omega)] at hW1
  exact ⟨_, rfl, Told.val (by rw [<- hW1]; rfl)⟩
 have h1 : decide ((s.size : Int) < 1) = false := h1
 have h1 := of_decide_eq_false h1
 refine zad (fun h2 => ?_) (fun h2 => ?_)
 ·have h2 : decide ((32 : Int) < (s.size : Int)) = true := h2
  have h2 := of_decide_eq_true h2
  rw [decide_eq_false (p := s.size <= 32) (by omega)] at hW1
  exact ⟨_, rfl, Told.val (by rw [<- hW1, Bool.false_and, Bool.and_false])⟩
 have h2 : decide ((32 : Int) < (s.size : Int)) = false := h2
 have h2 := of_decide_eq_false h2
 have hend := fun b => hend b (by omega) (by omega)
 clear hW1 hW
 refine ⟨⟨Nat × Bool, fun x => x.1 <= s.size /\ zd6 true s.data.toList = zd6 x.2 (s.data.toList.drop x.1),
  fun x => { s := [(0, .one (.v (.string s))), (3, .one (.v (.bool x.2))), (4, .one (.v (.int .i64 (x.1 : Int))))], m := [], k := 0, f := [] },
  fun x => s.size - x.1, ⟨(0, true), ⟨Nat.zero_le _, rfl⟩, ?_⟩, ?_⟩⟩
 ·exact zaa [] rfl rfl rfl rfl (Nat.zero_le _) ⟨⟨_, rfl, rfl⟩, ⟨_, rfl, rfl⟩, ⟨_, rfl, rfl⟩, trivial⟩ trivial trivial
 rintro ⟨j, b⟩ ⟨hj, hsc⟩
 simp only at hj hsc
 refine zad (fun hlt => ?_) (fun hge => ?_)
 rotate_left
 ·have hge : s.size <= j := by
   have h : decide ((j : Int) < (s.size : Int)) = false := hge
   have := of_decide_eq_false h
   omega
  rw [List.drop_eq_nil_of_le (by omega)] at hsc
  have hw := zq4 (b := b) hsc
  refine zai.blk 0 rfl rfl (fun g => ?_)
  refine zai.ent (st' := { s := [(0, .one (.v (.string s))), (3, .one (.v (.bool b))), (5, .one (.v (.slice (some ⟨g, 0, none⟩) 16 16)))], m := [], k := 0, f := [fun w => SlAt w (some ⟨g, 0, none⟩) zqf] }) (zaa [] rfl rfl rfl rfl (Nat.zero_le _) ⟨⟨_, rfl, rfl⟩, ⟨_, rfl, rfl⟩, ⟨_, rfl, rfl⟩, trivial⟩ trivial ⟨⟨SlAt.up _ _, fun w h => h.1⟩, trivial⟩) ?_
  refine zaf zac [] _ _ _ ?_
  refine ⟨⟨Nat, fun j => j <= 16 /\ (zf7.take j).any (fun x => decide (x = s.data.toList)) = false,
   fun j => { s := [(0, .one (.v (.string s))), (3, .one (.v (.bool b))), (5, .one (.v (.slice (some ⟨g, 0, none⟩) 16 16))), (6, .one (.v (.int .i64 (j : Int))))], m := [], k := 0, f := [fun w => SlAt w (some ⟨g, 0, none⟩) zqf] },
   fun j => 16 - j, ⟨0, ⟨Nat.zero_le _, rfl⟩, ?_⟩, ?_⟩⟩
  ·exact zaa [] rfl rfl rfl rfl (Nat.zero_le _) ⟨⟨_, rfl, rfl⟩, ⟨_, rfl, rfl⟩, ⟨_, rfl, rfl⟩, ⟨_, rfl, rfl⟩, trivial⟩ trivial ⟨⟨SlAt.up _ _, fun w h => h.1⟩, trivial⟩
  rintro q ⟨hq, hany⟩
  refine zad (fun hlt => ?_) (fun hge => ?_)
  ·have hlt : q < 16 := by
    have h : decide ((q : Int) < 16) = true := hlt
    have := of_decide_eq_true h
    omega
   have hlen : zf7.length = 16 := rfl
   obtain ⟨x, hx⟩ : ∃ x, zf7[q]? = some x := ⟨_, List.getElem?_eq_getElem (by omega)⟩
   refine ⟨{ n := q }, ⟨rfl, hlt, fun w h => rfl⟩, ?_⟩
   refine ⟨{ v := .string ⟨x.toArray⟩ }, fun w h => ?_, ?_⟩
   ·obtain ⟨a, ha, hcell⟩ := h.1 q _ (show zqf[q]? = some (.string ⟨x.toArray⟩) by rw [zqf, List.getElem?_map, hx]; rfl)
    cases ha
    exact ⟨_, rfl, by rw [Nat.mul_one]; exact hcell⟩
   refine zad (fun he => ?_) (fun he => ?_)
   ·have he : decide ((⟨x.toArray⟩ : ByteArray) = s) = true := he
    have he := zql.1 (of_decide_eq_true he)
    have : zf7.any (fun x => decide (x = s.data.toList)) = true := List.any_eq_true.2 ⟨x, List.mem_of_getElem? hx, decide_eq_true he⟩
    rw [this] at hw
    exact ⟨_, rfl, Told.val (by rw [hend _ hw]; rfl)⟩
   ·have he : decide ((⟨x.toArray⟩ : ByteArray) = s) = false := he
    have he := of_decide_eq_false he
    refine ⟨q + 1, ⟨hlt, ?_⟩, by simp only; omega, ?_⟩
    ·rw [List.take_add_one, hx, List.any_append, hany]
     simp only [Option.toList, List.any_cons, List.any_nil]
     rw [decide_eq_false (fun h => he (zql.2 h))]
     rfl
    ·exact zaa [] rfl rfl rfl rfl (Nat.zero_le _) ⟨⟨_, rfl, rfl⟩, ⟨_, rfl, rfl⟩, ⟨_, rfl, rfl⟩, ⟨_, rfl, oneI (za9 (by omega) (by omega))⟩, trivial⟩ trivial ⟨⟨SlAt.up _ _, fun w h => h.1⟩, trivial⟩
  ·have hge : 16 <= q := by
    have h : decide ((q : Int) < 16) = false := hge
    have := of_decide_eq_false h
    omega
   rw [List.take_of_length_le (show zf7.length <= q from hge)] at hany
   rw [hany] at hw
   exact ⟨_, rfl, Told.val (by rw [hend _ hw]; rfl)⟩
 have hlt2 : j < s.size := by
  have h : decide ((j : Int) < (s.size : Int)) = true := hlt
  have := of_decide_eq_true h
  omega
 clear hlt
 have hlt := hlt2
 clear hlt2
 rw [zw1 (by omega)] at hsc
 -- ROUND
 have hl := zrj ((s.data.toList.getD j 0).toNat : Int)
 have hd := ztx ((s.data.toList.getD j 0).toNat : Int)
 have hc46 : decide (((s.data.toList.getD j 0).toNat : Int) = 46) = decide (s.data.toList.getD j 0 = 46) := by
  rw [decide_eq_decide]
  have e46 : (46 : UInt8).toNat = 46 := rfl
  constructor
  ·intro h
   exact UInt8.toNat_inj.1 (by omega)
  ·intro h
   rw [h]
   rfl
 obtain ⟨dv, hdv⟩ : ∃ b, zm1 ((s.data.toList.getD j 0).toNat : Int) = b := ⟨_, rfl⟩
 rw [hdv] at hd
 obtain ⟨lv, hlv⟩ : ∃ b, zdg ((s.data.toList.getD j 0).toNat : Int) = b := ⟨_, rfl⟩
 rw [hlv] at hl hsc
 cases lv with
 | false =>
  cases b with
  | true =>
   rw [if_pos (show (true && !false) = true from rfl)] at hsc
   refine ⟨{ n := j }, ⟨rfl, hlt⟩, ?_⟩
   refine zae hl (fun _ => rfl) (fun _ _ => trivial) ?_
   rintro r rfl
   exact ⟨_, rfl, Told.val (by rw [hend _ (zkg hsc)])⟩
  | false =>
   rw [if_neg (show ¬ (false && !false) = true by decide)] at hsc
   refine ⟨{ n := j }, ⟨rfl, hlt⟩, ?_⟩
   refine zad (fun h46 => ?_) (fun h46 => ?_)
   ·have h46 : decide (((s.data.toList.getD j 0).toNat : Int) = 46) = true := h46
    rw [hc46] at h46
    rw [if_pos (of_decide_eq_true h46)] at hsc
    refine ⟨(j + 1, true), ⟨hlt, hsc⟩, by simp only; omega, ?_⟩
    exact zaa [] rfl rfl rfl rfl (Nat.zero_le _) ⟨⟨_, rfl, rfl⟩, ⟨_, rfl, rfl⟩, ⟨_, rfl, oneI (za9 (by omega) (by omega))⟩, trivial⟩ trivial trivial
   have h46 : decide (((s.data.toList.getD j 0).toNat : Int) = 46) = false := h46
   rw [hc46] at h46
   rw [if_neg (of_decide_eq_false h46)] at hsc
   refine ⟨{ n := j }, ⟨rfl, hlt⟩, ?_⟩
   refine zae hl (fun _ => rfl) (fun _ _ => trivial) ?_
   rintro r rfl
   cases dv with
   | true =>
    refine ⟨{ n := j }, ⟨rfl, hlt⟩, ?_⟩
    refine zae hd (fun _ => rfl) (fun _ _ => trivial) ?_
    rintro r rfl
    rw [if_pos (show zht ((s.data.toList.getD j 0).toNat : Int) = true by rw [zht, hlv, hdv]; rfl)] at hsc
    refine ⟨(j + 1, false), ⟨hlt, hsc⟩, by simp only; omega, ?_⟩
    exact zaa [] rfl rfl rfl rfl (Nat.zero_le _) ⟨⟨_, rfl, rfl⟩, ⟨_, rfl, rfl⟩, ⟨_, rfl, oneI (za9 (by omega) (by omega))⟩, trivial⟩ trivial trivial
   | false =>
    refine ⟨{ n := j }, ⟨rfl, hlt⟩, ?_⟩
    refine zae hd (fun _ => rfl) (fun _ _ => trivial) ?_
    rintro r rfl
    refine ⟨{ n := j }, ⟨rfl, hlt⟩, ?_⟩
    refine zad (fun h95 => ?_) (fun h95 => ?_)
    ·have h95 : (!decide (((s.data.toList.getD j 0).toNat : Int) = 95)) = true := h95
     rw [if_neg (show ¬ zht ((s.data.toList.getD j 0).toNat : Int) = true by rw [zht, hlv, hdv]; intro h; rw [show decide (((s.data.toList.getD j 0).toNat : Int) = 95) = true from h] at h95; cases h95)] at hsc
     exact ⟨_, rfl, Told.val (by rw [hend _ (zkg hsc)])⟩
    ·have h95 : (!decide (((s.data.toList.getD j 0).toNat : Int) = 95)) = false := h95
     rw [if_pos (show zht ((s.data.toList.getD j 0).toNat : Int) = true by rw [zht, hlv, hdv]; cases hq : decide (((s.data.toList.getD j 0).toNat : Int) = 95) with | true => rfl | false => rw [hq] at h95; cases h95)] at hsc
     refine ⟨(j + 1, false), ⟨hlt, hsc⟩, by simp only; omega, ?_⟩
     exact zaa [] rfl rfl rfl rfl (Nat.zero_le _) ⟨⟨_, rfl, rfl⟩, ⟨_, rfl, rfl⟩, ⟨_, rfl, oneI (za9 (by omega) (by omega))⟩, trivial⟩ trivial trivial
 | true =>
  rw [if_neg (show ¬ (b && !true) = true by cases b <;> decide)] at hsc
  cases b with
  | true =>
   refine ⟨{ n := j }, ⟨rfl, hlt⟩, ?_⟩
   refine zae hl (fun _ => rfl) (fun _ _ => trivial) ?_
   rintro r rfl
   refine ⟨{ n := j }, ⟨rfl, hlt⟩, ?_⟩
   refine zad (fun h46 => ?_) (fun h46 => ?_)
   ·have h46 : decide (((s.data.toList.getD j 0).toNat : Int) = 46) = true := h46
    rw [hc46] at h46
    rw [if_pos (of_decide_eq_true h46)] at hsc
    refine ⟨(j + 1, true), ⟨hlt, hsc⟩, by simp only; omega, ?_⟩
    exact zaa [] rfl rfl rfl rfl (Nat.zero_le _) ⟨⟨_, rfl, rfl⟩, ⟨_, rfl, rfl⟩, ⟨_, rfl, oneI (za9 (by omega) (by omega))⟩, trivial⟩ trivial trivial
   have h46 : decide (((s.data.toList.getD j 0).toNat : Int) = 46) = false := h46
   rw [hc46] at h46
   rw [if_neg (of_decide_eq_false h46)] at hsc
   refine ⟨{ n := j }, ⟨rfl, hlt⟩, ?_⟩
   refine zae hl (fun _ => rfl) (fun _ _ => trivial) ?_
   rintro r rfl
   rw [if_pos (zen hlv)] at hsc
   refine ⟨(j + 1, false), ⟨hlt, hsc⟩, by simp only; omega, ?_⟩
   exact zaa [] rfl rfl rfl rfl (Nat.zero_le _) ⟨⟨_, rfl, rfl⟩, ⟨_, rfl, rfl⟩, ⟨_, rfl, oneI (za9 (by omega) (by omega))⟩, trivial⟩ trivial trivial
  | false =>
   refine ⟨{ n := j }, ⟨rfl, hlt⟩, ?_⟩
   refine zad (fun h46 => ?_) (fun h46 => ?_)
   ·have h46 : decide (((s.data.toList.getD j 0).toNat : Int) = 46) = true := h46
    rw [hc46] at h46
    rw [if_pos (of_decide_eq_true h46)] at hsc
    refine ⟨(j + 1, true), ⟨hlt, hsc⟩, by simp only; omega, ?_⟩
    exact zaa [] rfl rfl rfl rfl (Nat.zero_le _) ⟨⟨_, rfl, rfl⟩, ⟨_, rfl, rfl⟩, ⟨_, rfl, oneI (za9 (by omega) (by omega))⟩, trivial⟩ trivial trivial
   have h46 : decide (((s.data.toList.getD j 0).toNat : Int) = 46) = false := h46
   rw [hc46] at h46
   rw [if_neg (of_decide_eq_false h46)] at hsc
   refine ⟨{ n := j }, ⟨rfl, hlt⟩, ?_⟩
   refine zae hl (fun _ => rfl) (fun _ _ => trivial) ?_
   rintro r rfl
   rw [if_pos (zen hlv)] at hsc
   refine ⟨(j + 1, false), ⟨hlt, hsc⟩, by simp only; omega, ?_⟩
   exact zaa [] rfl rfl rfl rfl (Nat.zero_le _) ⟨⟨_, rfl, rfl⟩, ⟨_, rfl, rfl⟩, ⟨_, rfl, oneI (za9 (by omega) (by omega))⟩, trivial⟩ trivial trivial
end Go.Proofs.YtmkpiekbpakigaaDoor
end
section
set_option linter.unusedVariables false
set_option linter.unusedSimpArgs false
namespace Go.Proofs.YtmkpiekbpakigaaDoor
open Go.RowKit Go.Proofs.Base Go.Proofs.Sym
theorem Lv.right_all {l : Lv} (h0 : 0 <= l.b) (h1 : l.b <= 100) (h : ∀ i, i < 4 -> -1 <= l.p i /\ l.p i <= l.b) : l.right = true := by
 unfold Lv.right
 exact decide_eq_true ⟨h 0 (by decide), h 1 (by decide), h 2 (by decide), h 3 (by decide), h0, h1⟩
theorem Lv.right_no {l : Lv} {i : Nat} (hi : i < 4) (h : ¬ (-1 <= l.p i /\ l.p i <= l.b)) : l.right = false := by
 unfold Lv.right
 refine decide_eq_false fun ⟨g0, g1, g2, g3, _⟩ => h ?_
 match i, hi with
 | 0, _ => exact g0
 | 1, _ => exact g1
 | 2, _ => exact g2
 | 3, _ => exact g3
theorem Lv.right_nob {l : Lv} (h : ¬ (0 <= l.b /\ l.b <= 100)) : l.right = false := by
 unfold Lv.right
 exact decide_eq_false fun ⟨_, _, _, _, g⟩ => h g
set_option maxHeartbeats 2000000 in
theorem zow (l : Lv) : PCall Tryd.prog 133 [l.val] (fun _ => True) (fun r => r = .bool l.right) (fun _ _ => True) := by
 have hall := @Lv.right_all l
 have hno := fun i => @Lv.right_no l i
 have hnob := @Lv.right_nob l
 obtain ⟨R, hR⟩ : ∃ R, l.right = R := ⟨_, rfl⟩
 rw [hR] at hall hno hnob ⊢
 clear hR
 obtain ⟨b, p0, p1, p2, p3⟩ := l
 have hall : 0 <= b -> b <= 100 -> (∀ i, i < 4 -> -1 <= (Lv.mk b p0 p1 p2 p3).p i /\ (Lv.mk b p0 p1 p2 p3).p i <= b) -> R = true := hall
 have hno : ∀ i, i < 4 -> ¬ (-1 <= (Lv.mk b p0 p1 p2 p3).p i /\ (Lv.mk b p0 p1 p2 p3).p i <= b) -> R = false := fun i h1 h2 => hno i h1 h2
 have hnob : ¬ (0 <= b /\ b <= 100) -> R = false := hnob
 refine zar zac 37 [.tmp 2] Tryd.func133 rfl rfl (by kernel_rfl) rfl _ (leB rfl) Up.true (fun _ => Up.true) ?_
 refine zaf zac [6] _ _ _ ?_
 refine zad (fun h1 => ?_) (fun h1 => ?_)
 ·have h1 : decide (b < 0) = true := h1
  have h1 := of_decide_eq_true h1
  exact ⟨_, rfl, Told.val (by rw [hnob (by omega)])⟩
 have h1 : decide (b < 0) = false := h1
 have h1 := of_decide_eq_false h1
 refine zad (fun h2 => ?_) (fun h2 => ?_)
 ·have h2 : decide (100 < b) = true := h2
  have h2 := of_decide_eq_true h2
  exact ⟨_, rfl, Told.val (by rw [hnob (by omega)])⟩
 have h2 : decide (100 < b) = false := h2
 have h2 := of_decide_eq_false h2
 refine ⟨⟨Nat, fun j => j <= 4 /\ ∀ i, i < j -> -1 <= (Lv.mk b p0 p1 p2 p3).p i /\ (Lv.mk b p0 p1 p2 p3).p i <= b,
  fun j => { s := [(1, .one (.p 0 0)), (3, .one (.v (.int .i64 (j : Int))))], m := [(0, .cells 24 [.v (.int .i64 b), .v (.int .i64 p0), .v (.int .i64 p1), .v (.int .i64 p2), .v (.int .i64 p3)])], k := 1, f := [] },
  fun j => 4 - j, ⟨0, ⟨Nat.zero_le _, fun i hi => absurd hi (Nat.not_lt_zero _)⟩, ?_⟩, ?_⟩⟩
 ·exact zaa [(0, .blk 0)] rfl rfl rfl rfl (leB rfl) (rs rfl rfl) (rm rfl rfl) trivial
 rintro j ⟨hj, hok⟩
 refine zad (fun hlt => ?_) (fun hge => ?_)
 rotate_left
 ·have hge : 4 <= j := by
   have h : decide ((j : Int) < 4) = false := hge
   have := of_decide_eq_false h
   omega
  exact ⟨_, rfl, Told.val (by rw [hall (by omega) (by omega) (fun i hi => hok i (by omega))])⟩
 have hlt : j < 4 := by
  have h : decide ((j : Int) < 4) = true := hlt
  have := of_decide_eq_true h
  omega
 match j, hlt, hok with
 | 0, _, hok =>
  obtain ⟨c1, e1⟩ : ∃ c, decide (p0 < -1) = c := ⟨_, rfl⟩
  obtain ⟨c2, e2⟩ : ∃ c, decide (100 < p0) = c := ⟨_, rfl⟩
  obtain ⟨c3, e3⟩ : ∃ c, decide (b < p0) = c := ⟨_, rfl⟩
  refine zaf zac [] _ _ _ ?_
  cases c1 with
  | true =>
   refine .inl ⟨21, [0, 0, 3, 7, 15, 31, 63, 63, 255, 511, 1023, 2047, 4095, 8191, 8191, 32767, 65535, 8191, 139263, 524287, 1048575], fun vs i => match i with
    | 2 => { c := { n := 0 } }
    | 4 => { b := some true }
    | _ => {}, by kernel_rfl, rfl, by kernel_rfl, by kernel_rfl, by kernel_rfl, by decide, fun vals => ?_⟩
   refine ⟨fun _ => ⟨rfl, (show 0 < 4 by decide)⟩, ?_⟩
   refine ⟨fun _ => e1, ?_⟩
   intro _
   have h := of_decide_eq_true e1
   have hq : (Lv.mk b p0 p1 p2 p3).p 0 = p0 := rfl
   exact ⟨_, rfl, Told.val (by rw [hno 0 (by decide) (by rw [hq]; omega)])⟩
  | false =>
  cases c2 with
  | true =>
   refine .inl ⟨21, [0, 0, 3, 7, 15, 31, 63, 63, 255, 511, 1023, 2047, 4095, 8191, 8191, 32767, 65535, 8191, 139263, 524287, 1048575], fun vs i => match i with
    | 2 => { c := { n := 0 } }
    | 4 => { b := some false }
    | 8 => { c := { n := 0 } }
    | 10 => { b := some true }
    | _ => {}, by kernel_rfl, rfl, by kernel_rfl, by kernel_rfl, by kernel_rfl, by decide, fun vals => ?_⟩
   refine ⟨fun _ => ⟨rfl, (show 0 < 4 by decide)⟩, ?_⟩
   refine ⟨fun _ => e1, ?_⟩
   refine ⟨fun _ => ⟨rfl, (show 0 < 4 by decide)⟩, ?_⟩
   refine ⟨fun _ => e2, ?_⟩
   intro _
   have h := of_decide_eq_true e2
   have hq : (Lv.mk b p0 p1 p2 p3).p 0 = p0 := rfl
   exact ⟨_, rfl, Told.val (by rw [hno 0 (by decide) (by rw [hq]; omega)])⟩
  | false =>
  cases c3 with
  | true =>
   refine .inl ⟨21, [0, 0, 3, 7, 15, 31, 63, 63, 255, 511, 1023, 2047, 4095, 8191, 8191, 32767, 65535, 8191, 139263, 524287, 1048575], fun vs i => match i with
    | 2 => { c := { n := 0 } }
    | 4 => { b := some false }
    | 8 => { c := { n := 0 } }
    | 10 => { b := some false }
    | 15 => { c := { n := 0 } }
    | 19 => { b := some true }
    | _ => {}, by kernel_rfl, rfl, by kernel_rfl, by kernel_rfl, by kernel_rfl, by decide, fun vals => ?_⟩
   refine ⟨fun _ => ⟨rfl, (show 0 < 4 by decide)⟩, ?_⟩
   refine ⟨fun _ => e1, ?_⟩
   refine ⟨fun _ => ⟨rfl, (show 0 < 4 by decide)⟩, ?_⟩
   refine ⟨fun _ => e2, ?_⟩
   refine ⟨fun _ => ⟨rfl, (show 0 < 4 by decide)⟩, ?_⟩
   refine ⟨fun _ => e3, ?_⟩
   intro _
   have h := of_decide_eq_true e3
   have hq : (Lv.mk b p0 p1 p2 p3).p 0 = p0 := rfl
   exact ⟨_, rfl, Told.val (by rw [hno 0 (by decide) (by rw [hq]; omega)])⟩
  | false =>
   refine .inl ⟨21, [0, 0, 3, 7, 15, 31, 63, 63, 255, 511, 1023, 2047, 4095, 8191, 8191, 32767, 65535, 8191, 139263, 524287, 1048575], fun vs i => match i with
    | 2 => { c := { n := 0 } }
    | 4 => { b := some false }
    | 8 => { c := { n := 0 } }
    | 10 => { b := some false }
    | 15 => { c := { n := 0 } }
    | 19 => { b := some false }
    | _ => {}, by kernel_rfl, rfl, by kernel_rfl, by kernel_rfl, by kernel_rfl, by decide, fun vals => ?_⟩
   refine ⟨fun _ => ⟨rfl, (show 0 < 4 by decide)⟩, ?_⟩
   refine ⟨fun _ => e1, ?_⟩
   refine ⟨fun _ => ⟨rfl, (show 0 < 4 by decide)⟩, ?_⟩
   refine ⟨fun _ => e2, ?_⟩
   refine ⟨fun _ => ⟨rfl, (show 0 < 4 by decide)⟩, ?_⟩
   refine ⟨fun _ => e3, ?_⟩
   intro _
   have h1' := of_decide_eq_false e1
   have h3' := of_decide_eq_false e3
   have hq : (Lv.mk b p0 p1 p2 p3).p 0 = p0 := rfl
   refine ⟨1, ⟨by decide, fun i hi => ?_⟩, by decide, ?_⟩
   ·by_cases hij : i = 0
    ·subst hij
     rw [hq]
     omega
    ·exact hok i (by omega)
   ·exact zaa [(0, .blk 0)] rfl rfl rfl rfl (leB rfl) (rs rfl rfl) (rm rfl rfl) trivial
 | 1, _, hok =>
  obtain ⟨c1, e1⟩ : ∃ c, decide (p1 < -1) = c := ⟨_, rfl⟩
  obtain ⟨c2, e2⟩ : ∃ c, decide (100 < p1) = c := ⟨_, rfl⟩
  obtain ⟨c3, e3⟩ : ∃ c, decide (b < p1) = c := ⟨_, rfl⟩
  refine zaf zac [] _ _ _ ?_
  cases c1 with
  | true =>
   refine .inl ⟨21, [0, 0, 3, 7, 15, 31, 63, 63, 255, 511, 1023, 2047, 4095, 8191, 8191, 32767, 65535, 8191, 139263, 524287, 1048575], fun vs i => match i with
    | 2 => { c := { n := 1 } }
    | 4 => { b := some true }
    | _ => {}, by kernel_rfl, rfl, by kernel_rfl, by kernel_rfl, by kernel_rfl, by decide, fun vals => ?_⟩
   refine ⟨fun _ => ⟨rfl, (show 1 < 4 by decide)⟩, ?_⟩
   refine ⟨fun _ => e1, ?_⟩
   intro _
   have h := of_decide_eq_true e1
   have hq : (Lv.mk b p0 p1 p2 p3).p 1 = p1 := rfl
   exact ⟨_, rfl, Told.val (by rw [hno 1 (by decide) (by rw [hq]; omega)])⟩
  | false =>
  cases c2 with
  | true =>
   refine .inl ⟨21, [0, 0, 3, 7, 15, 31, 63, 63, 255, 511, 1023, 2047, 4095, 8191, 8191, 32767, 65535, 8191, 139263, 524287, 1048575], fun vs i => match i with
    | 2 => { c := { n := 1 } }
    | 4 => { b := some false }
    | 8 => { c := { n := 1 } }
    | 10 => { b := some true }
    | _ => {}, by kernel_rfl, rfl, by kernel_rfl, by kernel_rfl, by kernel_rfl, by decide, fun vals => ?_⟩
   refine ⟨fun _ => ⟨rfl, (show 1 < 4 by decide)⟩, ?_⟩
   refine ⟨fun _ => e1, ?_⟩
   refine ⟨fun _ => ⟨rfl, (show 1 < 4 by decide)⟩, ?_⟩
   refine ⟨fun _ => e2, ?_⟩
   intro _
   have h := of_decide_eq_true e2
   have hq : (Lv.mk b p0 p1 p2 p3).p 1 = p1 := rfl
   exact ⟨_, rfl, Told.val (by rw [hno 1 (by decide) (by rw [hq]; omega)])⟩
  | false =>
  cases c3 with
  | true =>
   refine .inl ⟨21, [0, 0, 3, 7, 15, 31, 63, 63, 255, 511, 1023, 2047, 4095, 8191, 8191, 32767, 65535, 8191, 139263, 524287, 1048575], fun vs i => match i with
    | 2 => { c := { n := 1 } }
    | 4 => { b := some false }
    | 8 => { c := { n := 1 } }
    | 10 => { b := some false }
    | 15 => { c := { n := 1 } }
    | 19 => { b := some true }
    | _ => {}, by kernel_rfl, rfl, by kernel_rfl, by kernel_rfl, by kernel_rfl, by decide, fun vals => ?_⟩
   refine ⟨fun _ => ⟨rfl, (show 1 < 4 by decide)⟩, ?_⟩
   refine ⟨fun _ => e1, ?_⟩
   refine ⟨fun _ => ⟨rfl, (show 1 < 4 by decide)⟩, ?_⟩
   refine ⟨fun _ => e2, ?_⟩
   refine ⟨fun _ => ⟨rfl, (show 1 < 4 by decide)⟩, ?_⟩
   refine ⟨fun _ => e3, ?_⟩
   intro _
   have h := of_decide_eq_true e3
   have hq : (Lv.mk b p0 p1 p2 p3).p 1 = p1 := rfl
   exact ⟨_, rfl, Told.val (by rw [hno 1 (by decide) (by rw [hq]; omega)])⟩
  | false =>
   refine .inl ⟨21, [0, 0, 3, 7, 15, 31, 63, 63, 255, 511, 1023, 2047, 4095, 8191, 8191, 32767, 65535, 8191, 139263, 524287, 1048575], fun vs i => match i with
    | 2 => { c := { n := 1 } }
    | 4 => { b := some false }
    | 8 => { c := { n := 1 } }
    | 10 => { b := some false }
    | 15 => { c := { n := 1 } }
    | 19 => { b := some false }
    | _ => {}, by kernel_rfl, rfl, by kernel_rfl, by kernel_rfl, by kernel_rfl, by decide, fun vals => ?_⟩
   refine ⟨fun _ => ⟨rfl, (show 1 < 4 by decide)⟩, ?_⟩
   refine ⟨fun _ => e1, ?_⟩
   refine ⟨fun _ => ⟨rfl, (show 1 < 4 by decide)⟩, ?_⟩
   refine ⟨fun _ => e2, ?_⟩
   refine ⟨fun _ => ⟨rfl, (show 1 < 4 by decide)⟩, ?_⟩
   refine ⟨fun _ => e3, ?_⟩
   intro _
   have h1' := of_decide_eq_false e1
   have h3' := of_decide_eq_false e3
   have hq : (Lv.mk b p0 p1 p2 p3).p 1 = p1 := rfl
   refine ⟨2, ⟨by decide, fun i hi => ?_⟩, by decide, ?_⟩
   ·by_cases hij : i = 1
    ·subst hij
     rw [hq]
     omega
    ·exact hok i (by omega)
   ·exact zaa [(0, .blk 0)] rfl rfl rfl rfl (leB rfl) (rs rfl rfl) (rm rfl rfl) trivial
 | 2, _, hok =>
  obtain ⟨c1, e1⟩ : ∃ c, decide (p2 < -1) = c := ⟨_, rfl⟩
  obtain ⟨c2, e2⟩ : ∃ c, decide (100 < p2) = c := ⟨_, rfl⟩
  obtain ⟨c3, e3⟩ : ∃ c, decide (b < p2) = c := ⟨_, rfl⟩
  refine zaf zac [] _ _ _ ?_
  cases c1 with
  | true =>
   refine .inl ⟨21, [0, 0, 3, 7, 15, 31, 63, 63, 255, 511, 1023, 2047, 4095, 8191, 8191, 32767, 65535, 8191, 139263, 524287, 1048575], fun vs i => match i with
    | 2 => { c := { n := 2 } }
    | 4 => { b := some true }
    | _ => {}, by kernel_rfl, rfl, by kernel_rfl, by kernel_rfl, by kernel_rfl, by decide, fun vals => ?_⟩
   refine ⟨fun _ => ⟨rfl, (show 2 < 4 by decide)⟩, ?_⟩
   refine ⟨fun _ => e1, ?_⟩
   intro _
   have h := of_decide_eq_true e1
   have hq : (Lv.mk b p0 p1 p2 p3).p 2 = p2 := rfl
   exact ⟨_, rfl, Told.val (by rw [hno 2 (by decide) (by rw [hq]; omega)])⟩
  | false =>
  cases c2 with
  | true =>
   refine .inl ⟨21, [0, 0, 3, 7, 15, 31, 63, 63, 255, 511, 1023, 2047, 4095, 8191, 8191, 32767, 65535, 8191, 139263, 524287, 1048575], fun vs i => match i with
    | 2 => { c := { n := 2 } }
    | 4 => { b := some false }
    | 8 => { c := { n := 2 } }
    | 10 => { b := some true }
    | _ => {}, by kernel_rfl, rfl, by kernel_rfl, by kernel_rfl, by kernel_rfl, by decide, fun vals => ?_⟩
   refine ⟨fun _ => ⟨rfl, (show 2 < 4 by decide)⟩, ?_⟩
   refine ⟨fun _ => e1, ?_⟩
   refine ⟨fun _ => ⟨rfl, (show 2 < 4 by decide)⟩, ?_⟩
   refine ⟨fun _ => e2, ?_⟩
   intro _
   have h := of_decide_eq_true e2
   have hq : (Lv.mk b p0 p1 p2 p3).p 2 = p2 := rfl
   exact ⟨_, rfl, Told.val (by rw [hno 2 (by decide) (by rw [hq]; omega)])⟩
  | false =>
  cases c3 with
  | true =>
   refine .inl ⟨21, [0, 0, 3, 7, 15, 31, 63, 63, 255, 511, 1023, 2047, 4095, 8191, 8191, 32767, 65535, 8191, 139263, 524287, 1048575], fun vs i => match i with
    | 2 => { c := { n := 2 } }
    | 4 => { b := some false }
    | 8 => { c := { n := 2 } }
    | 10 => { b := some false }
    | 15 => { c := { n := 2 } }
    | 19 => { b := some true }
    | _ => {}, by kernel_rfl, rfl, by kernel_rfl, by kernel_rfl, by kernel_rfl, by decide, fun vals => ?_⟩
   refine ⟨fun _ => ⟨rfl, (show 2 < 4 by decide)⟩, ?_⟩
   refine ⟨fun _ => e1, ?_⟩
   refine ⟨fun _ => ⟨rfl, (show 2 < 4 by decide)⟩, ?_⟩
   refine ⟨fun _ => e2, ?_⟩
   refine ⟨fun _ => ⟨rfl, (show 2 < 4 by decide)⟩, ?_⟩
   refine ⟨fun _ => e3, ?_⟩
   intro _
   have h := of_decide_eq_true e3
   have hq : (Lv.mk b p0 p1 p2 p3).p 2 = p2 := rfl
   exact ⟨_, rfl, Told.val (by rw [hno 2 (by decide) (by rw [hq]; omega)])⟩
  | false =>
   refine .inl ⟨21, [0, 0, 3, 7, 15, 31, 63, 63, 255, 511, 1023, 2047, 4095, 8191, 8191, 32767, 65535, 8191, 139263, 524287, 1048575], fun vs i => match i with
    | 2 => { c := { n := 2 } }
    | 4 => { b := some false }
    | 8 => { c := { n := 2 } }
    | 10 => { b := some false }
    | 15 => { c := { n := 2 } }
    | 19 => { b := some false }
    | _ => {}, by kernel_rfl, rfl, by kernel_rfl, by kernel_rfl, by kernel_rfl, by decide, fun vals => ?_⟩
   refine ⟨fun _ => ⟨rfl, (show 2 < 4 by decide)⟩, ?_⟩
   refine ⟨fun _ => e1, ?_⟩
   refine ⟨fun _ => ⟨rfl, (show 2 < 4 by decide)⟩, ?_⟩
   refine ⟨fun _ => e2, ?_⟩
   refine ⟨fun _ => ⟨rfl, (show 2 < 4 by decide)⟩, ?_⟩
   refine ⟨fun _ => e3, ?_⟩
   intro _
   have h1' := of_decide_eq_false e1
   have h3' := of_decide_eq_false e3
   have hq : (Lv.mk b p0 p1 p2 p3).p 2 = p2 := rfl
   refine ⟨3, ⟨by decide, fun i hi => ?_⟩, by decide, ?_⟩
   ·by_cases hij : i = 2
    ·subst hij
     rw [hq]
     omega
    ·exact hok i (by omega)
   ·exact zaa [(0, .blk 0)] rfl rfl rfl rfl (leB rfl) (rs rfl rfl) (rm rfl rfl) trivial
 | 3, _, hok =>
  obtain ⟨c1, e1⟩ : ∃ c, decide (p3 < -1) = c := ⟨_, rfl⟩
  obtain ⟨c2, e2⟩ : ∃ c, decide (100 < p3) = c := ⟨_, rfl⟩
  obtain ⟨c3, e3⟩ : ∃ c, decide (b < p3) = c := ⟨_, rfl⟩
  refine zaf zac [] _ _ _ ?_
  cases c1 with
  | true =>
   refine .inl ⟨21, [0, 0, 3, 7, 15, 31, 63, 63, 255, 511, 1023, 2047, 4095, 8191, 8191, 32767, 65535, 8191, 139263, 524287, 1048575], fun vs i => match i with
    | 2 => { c := { n := 3 } }
    | 4 => { b := some true }
    | _ => {}, by kernel_rfl, rfl, by kernel_rfl, by kernel_rfl, by kernel_rfl, by decide, fun vals => ?_⟩
   refine ⟨fun _ => ⟨rfl, (show 3 < 4 by decide)⟩, ?_⟩
   refine ⟨fun _ => e1, ?_⟩
   intro _
   have h := of_decide_eq_true e1
   have hq : (Lv.mk b p0 p1 p2 p3).p 3 = p3 := rfl
   exact ⟨_, rfl, Told.val (by rw [hno 3 (by decide) (by rw [hq]; omega)])⟩
  | false =>
  cases c2 with
  | true =>
   refine .inl ⟨21, [0, 0, 3, 7, 15, 31, 63, 63, 255, 511, 1023, 2047, 4095, 8191, 8191, 32767, 65535, 8191, 139263, 524287, 1048575], fun vs i => match i with
    | 2 => { c := { n := 3 } }
    | 4 => { b := some false }
    | 8 => { c := { n := 3 } }
    | 10 => { b := some true }
    | _ => {}, by kernel_rfl, rfl, by kernel_rfl, by kernel_rfl, by kernel_rfl, by decide, fun vals => ?_⟩
   refine ⟨fun _ => ⟨rfl, (show 3 < 4 by decide)⟩, ?_⟩
   refine ⟨fun _ => e1, ?_⟩
   refine ⟨fun _ => ⟨rfl, (show 3 < 4 by decide)⟩, ?_⟩
   refine ⟨fun _ => e2, ?_⟩
   intro _
   have h := of_decide_eq_true e2
   have hq : (Lv.mk b p0 p1 p2 p3).p 3 = p3 := rfl
   exact ⟨_, rfl, Told.val (by rw [hno 3 (by decide) (by rw [hq]; omega)])⟩
  | false =>
  cases c3 with
  | true =>
   refine .inl ⟨21, [0, 0, 3, 7, 15, 31, 63, 63, 255, 511, 1023, 2047, 4095, 8191, 8191, 32767, 65535, 8191, 139263, 524287, 1048575], fun vs i => match i with
    | 2 => { c := { n := 3 } }
    | 4 => { b := some false }
    | 8 => { c := { n := 3 } }
    | 10 => { b := some false }
    | 15 => { c := { n := 3 } }
    | 19 => { b := some true }
    | _ => {}, by kernel_rfl, rfl, by kernel_rfl, by kernel_rfl, by kernel_rfl, by decide, fun vals => ?_⟩
   refine ⟨fun _ => ⟨rfl, (show 3 < 4 by decide)⟩, ?_⟩
   refine ⟨fun _ => e1, ?_⟩
   refine ⟨fun _ => ⟨rfl, (show 3 < 4 by decide)⟩, ?_⟩
   refine ⟨fun _ => e2, ?_⟩
   refine ⟨fun _ => ⟨rfl, (show 3 < 4 by decide)⟩, ?_⟩
   refine ⟨fun _ => e3, ?_⟩
   intro _
   have h := of_decide_eq_true e3
   have hq : (Lv.mk b p0 p1 p2 p3).p 3 = p3 := rfl
   exact ⟨_, rfl, Told.val (by rw [hno 3 (by decide) (by rw [hq]; omega)])⟩
  | false =>
   refine .inl ⟨21, [0, 0, 3, 7, 15, 31, 63, 63, 255, 511, 1023, 2047, 4095, 8191, 8191, 32767, 65535, 8191, 139263, 524287, 1048575], fun vs i => match i with
    | 2 => { c := { n := 3 } }
    | 4 => { b := some false }
    | 8 => { c := { n := 3 } }
    | 10 => { b := some false }
    | 15 => { c := { n := 3 } }
    | 19 => { b := some false }
    | _ => {}, by kernel_rfl, rfl, by kernel_rfl, by kernel_rfl, by kernel_rfl, by decide, fun vals => ?_⟩
   refine ⟨fun _ => ⟨rfl, (show 3 < 4 by decide)⟩, ?_⟩
   refine ⟨fun _ => e1, ?_⟩
   refine ⟨fun _ => ⟨rfl, (show 3 < 4 by decide)⟩, ?_⟩
   refine ⟨fun _ => e2, ?_⟩
   refine ⟨fun _ => ⟨rfl, (show 3 < 4 by decide)⟩, ?_⟩
   refine ⟨fun _ => e3, ?_⟩
   intro _
   have h1' := of_decide_eq_false e1
   have h3' := of_decide_eq_false e3
   have hq : (Lv.mk b p0 p1 p2 p3).p 3 = p3 := rfl
   refine ⟨4, ⟨by decide, fun i hi => ?_⟩, by decide, ?_⟩
   ·by_cases hij : i = 3
    ·subst hij
     rw [hq]
     omega
    ·exact hok i (by omega)
   ·exact zaa [(0, .blk 0)] rfl rfl rfl rfl (leB rfl) (rs rfl rfl) (rm rfl rfl) trivial
end Go.Proofs.YtmkpiekbpakigaaDoor
end
section
set_option linter.unusedVariables false
set_option linter.unusedSimpArgs false
namespace Go.Proofs.YtmkpiekbpakigaaDoor
open Go.RowKit Go.Proofs.Base Go.Proofs.Sym
def widU (l : Lv) : Nat -> Int
 | 0 => 0
 | k + 1 => if 0 <= l.p k then ((k : Int) + 1) else widU l k
theorem zaab (l : Lv) : widU l 4 = l.width := by
 obtain ⟨b, p0, p1, p2, p3⟩ := l
 simp only [widU, Lv.width, Lv.p]
 (repeat' split) <;> omega
set_option maxHeartbeats 2000000 in
theorem znv (l : Lv) : PCall Tryd.prog 134 [l.val] (fun _ => True) (fun r => r = .int .i64 l.width) (fun _ _ => True) := by
 have h4 := zaab l
 have hst : ∀ k b, decide (0 <= l.p k) = b -> widU l (k + 1) = if b = true then ((k : Int) + 1) else widU l k := fun k b hb => by
  rw [widU]
  by_cases h : 0 <= l.p k
  ·rw [if_pos h, if_pos (by rw [<- hb, decide_eq_true h])]
  ·rw [if_neg h, if_neg (by rw [<- hb, decide_eq_false h]; decide)]
 have h0 : widU l 0 = 0 := rfl
 obtain ⟨W, hW⟩ : ∃ W, widU l = W := ⟨_, rfl⟩
 rw [hW] at h4 h0
 simp only [hW] at hst
 rw [<- h4]
 clear hW h4
 obtain ⟨b, p0, p1, p2, p3⟩ := l
 refine zar zac 17 [.tmp 2] Tryd.func134 rfl rfl (by kernel_rfl) rfl _ (leB rfl) Up.true (fun _ => Up.true) ?_
 refine zaf zac [] _ _ _ ?_
 refine ⟨⟨Nat, fun j => j <= 4,
  fun j => { s := [(1, .one (.p 0 0)), (3, .one (.v (.int .i64 (W j)))), (4, .one (.v (.int .i64 (j : Int))))], m := [(0, .cells 24 [.v (.int .i64 b), .v (.int .i64 p0), .v (.int .i64 p1), .v (.int .i64 p2), .v (.int .i64 p3)])], k := 1, f := [] },
  fun j => 4 - j, ⟨0, Nat.zero_le _, ?_⟩, ?_⟩⟩
 ·exact zaa [(0, .blk 0)] rfl rfl rfl rfl (leB rfl) ⟨⟨_, rfl, rfl⟩, ⟨_, rfl, oneI h0.symm⟩, ⟨_, rfl, rfl⟩, trivial⟩ ⟨⟨_, rfl, rfl⟩, trivial⟩ trivial
 rintro j hj
 refine zad (fun hlt => ?_) (fun hge => ?_)
 rotate_left
 ·have hge : j = 4 := by
   have h : decide ((j : Int) < 4) = false := hge
   have := of_decide_eq_false h
   omega
  exact ⟨_, rfl, Told.val (by rw [hge])⟩
 have hlt : j < 4 := by
  have h : decide ((j : Int) < 4) = true := hlt
  have := of_decide_eq_true h
  omega
 match j, hlt with
 | 0, _ =>
  refine ⟨{ n := 0 }, ⟨rfl, (show 0 < 4 by decide)⟩, ?_⟩
  refine zad (fun h => ?_) (fun h => ?_)
  ·exact ⟨1, by decide, by decide, zaa [(0, .blk 0)] rfl rfl rfl rfl (leB rfl) ⟨⟨_, rfl, rfl⟩, ⟨_, rfl, oneI (hst 0 _ h).symm⟩, ⟨_, rfl, rfl⟩, trivial⟩ ⟨⟨_, rfl, rfl⟩, trivial⟩ trivial⟩
  ·exact ⟨1, by decide, by decide, zaa [(0, .blk 0)] rfl rfl rfl rfl (leB rfl) ⟨⟨_, rfl, rfl⟩, ⟨_, rfl, oneI (hst 0 _ h).symm⟩, ⟨_, rfl, rfl⟩, trivial⟩ ⟨⟨_, rfl, rfl⟩, trivial⟩ trivial⟩
 | 1, _ =>
  refine ⟨{ n := 1 }, ⟨rfl, (show 1 < 4 by decide)⟩, ?_⟩
  refine zad (fun h => ?_) (fun h => ?_)
  ·exact ⟨2, by decide, by decide, zaa [(0, .blk 0)] rfl rfl rfl rfl (leB rfl) ⟨⟨_, rfl, rfl⟩, ⟨_, rfl, oneI (hst 1 _ h).symm⟩, ⟨_, rfl, rfl⟩, trivial⟩ ⟨⟨_, rfl, rfl⟩, trivial⟩ trivial⟩
  ·exact ⟨2, by decide, by decide, zaa [(0, .blk 0)] rfl rfl rfl rfl (leB rfl) ⟨⟨_, rfl, rfl⟩, ⟨_, rfl, oneI (hst 1 _ h).symm⟩, ⟨_, rfl, rfl⟩, trivial⟩ ⟨⟨_, rfl, rfl⟩, trivial⟩ trivial⟩
 | 2, _ =>
  refine ⟨{ n := 2 }, ⟨rfl, (show 2 < 4 by decide)⟩, ?_⟩
  refine zad (fun h => ?_) (fun h => ?_)
  ·exact ⟨3, by decide, by decide, zaa [(0, .blk 0)] rfl rfl rfl rfl (leB rfl) ⟨⟨_, rfl, rfl⟩, ⟨_, rfl, oneI (hst 2 _ h).symm⟩, ⟨_, rfl, rfl⟩, trivial⟩ ⟨⟨_, rfl, rfl⟩, trivial⟩ trivial⟩
  ·exact ⟨3, by decide, by decide, zaa [(0, .blk 0)] rfl rfl rfl rfl (leB rfl) ⟨⟨_, rfl, rfl⟩, ⟨_, rfl, oneI (hst 2 _ h).symm⟩, ⟨_, rfl, rfl⟩, trivial⟩ ⟨⟨_, rfl, rfl⟩, trivial⟩ trivial⟩
 | 3, _ =>
  refine ⟨{ n := 3 }, ⟨rfl, (show 3 < 4 by decide)⟩, ?_⟩
  refine zad (fun h => ?_) (fun h => ?_)
  ·exact ⟨4, by decide, by decide, zaa [(0, .blk 0)] rfl rfl rfl rfl (leB rfl) ⟨⟨_, rfl, rfl⟩, ⟨_, rfl, oneI (hst 3 _ h).symm⟩, ⟨_, rfl, rfl⟩, trivial⟩ ⟨⟨_, rfl, rfl⟩, trivial⟩ trivial⟩
  ·exact ⟨4, by decide, by decide, zaa [(0, .blk 0)] rfl rfl rfl rfl (leB rfl) ⟨⟨_, rfl, rfl⟩, ⟨_, rfl, oneI (hst 3 _ h).symm⟩, ⟨_, rfl, rfl⟩, trivial⟩ ⟨⟨_, rfl, rfl⟩, trivial⟩ trivial⟩
def znn (k : Int) : Int := if k = 3 then 1 else if k = 4 then -1 else 0
theorem zvq (k : Int) : PCall Tryd.prog 132 [.int .i64 k] (fun _ => True) (fun r => r = .tuple #[.int .i64 (zg2 k), .int .i64 (znn k)]) (fun _ _ => True) := by
 refine zar zac 17 [.tmp 2, .tmp 3] Tryd.func132 rfl rfl (by kernel_rfl) rfl _ (leB rfl) Up.true (fun _ => Up.true) ?_
 have fin : ∀ a l, zg2 k = a -> znn k = l -> Value.tuple #[.int .i64 a, .int .i64 l] = .tuple #[.int .i64 (zg2 k), .int .i64 (znn k)] := fun a l h1 h2 => by rw [h1, h2]
 refine zaf zac [] _ _ _ ?_
 refine zad (fun h3 => ?_) (fun h3 => ?_)
 ·have h3 : decide (k = 3) = true := h3
  have h3 := of_decide_eq_true h3
  exact ⟨_, rfl, ⟨fun _ _ _ _ _ => ⟨fin 0 (1) (by subst h3; rfl) (by subst h3; rfl), trivial⟩⟩⟩
 have h3 : decide (k = 3) = false := h3
 have h3 := of_decide_eq_false h3
 refine zad (fun h4 => ?_) (fun h4 => ?_)
 ·have h4 : decide (k = 4) = true := h4
  have h4 := of_decide_eq_true h4
  exact ⟨_, rfl, ⟨fun _ _ _ _ _ => ⟨fin 0 (-1) (by subst h4; rfl) (by subst h4; rfl), trivial⟩⟩⟩
 have h4 : decide (k = 4) = false := h4
 have h4 := of_decide_eq_false h4
 have hl : znn k = 0 := by unfold znn; rw [if_neg h3, if_neg h4]
 refine zad (fun h5 => ?_) (fun h5 => ?_)
 ·have h5 : decide (k = 5) = true := h5
  have h5 := of_decide_eq_true h5
  exact ⟨_, rfl, ⟨fun _ _ _ _ _ => ⟨fin 2 0 (by subst h5; rfl) hl, trivial⟩⟩⟩
 have h5 : decide (k = 5) = false := h5
 have h5 := of_decide_eq_false h5
 refine zad (fun h6 => ?_) (fun h6 => ?_)
 ·have h6 : decide (k = 6) = true := h6
  have h6 := of_decide_eq_true h6
  exact ⟨_, rfl, ⟨fun _ _ _ _ _ => ⟨fin 2 0 (by subst h6; rfl) hl, trivial⟩⟩⟩
 have h6 : decide (k = 6) = false := h6
 have h6 := of_decide_eq_false h6
 refine zad (fun h7 => ?_) (fun h7 => ?_)
 ·have h7 : decide (k = 7) = true := h7
  have h7 := of_decide_eq_true h7
  exact ⟨_, rfl, ⟨fun _ _ _ _ _ => ⟨fin 2 0 (by subst h7; rfl) hl, trivial⟩⟩⟩
 have h7 : decide (k = 7) = false := h7
 have h7 := of_decide_eq_false h7
 refine zad (fun h8 => ?_) (fun h8 => ?_)
 ·have h8 : decide (k = 8) = true := h8
  have h8 := of_decide_eq_true h8
  exact ⟨_, rfl, ⟨fun _ _ _ _ _ => ⟨fin 3 0 (by subst h8; rfl) hl, trivial⟩⟩⟩
 have h8 : decide (k = 8) = false := h8
 have h8 := of_decide_eq_false h8
 refine zad (fun h9 => ?_) (fun h9 => ?_)
 ·have h9 : decide (k = 9) = true := h9
  have h9 := of_decide_eq_true h9
  exact ⟨_, rfl, ⟨fun _ _ _ _ _ => ⟨fin 1 0 (by subst h9; rfl) hl, trivial⟩⟩⟩
 have h9 : decide (k = 9) = false := h9
 have h9 := of_decide_eq_false h9
 exact ⟨_, rfl, ⟨fun _ _ _ _ _ => ⟨fin 0 0 (by unfold zg2; simp [h5, h6, h7, h8, h9]) hl, trivial⟩⟩⟩
def znk (k a : Int) : Bool := ((decide (k = 6) || decide (k = 7)) && decide (a = 1)) || (decide (k = 8) && decide (a = 2))
theorem zur {k a : Int} (h0 : 0 <= a) : znk k a = decide (zbi k a = 1) := by
 unfold znk zbi za7
 rw [Bool.eq_iff_iff]
 simp only [Bool.or_eq_true, Bool.and_eq_true, decide_eq_true_eq]
 repeat' split
 all_goals omega
theorem zwi (k a : Int) : PCall Tryd.prog 122 [.int .i64 k, .int .i64 a] (fun _ => True) (fun r => r = .bool (znk k a)) (fun _ _ => True) := by
 refine zar zac 23 [.tmp 4] Tryd.func122 rfl rfl (by kernel_rfl) rfl _ (leB rfl) Up.true (fun _ => Up.true) ?_
 have fin : ∀ b1 b2 b3 b4 b5, decide (k = 6) = b1 -> decide (k = 7) = b2 -> decide (a = 1) = b3 -> decide (k = 8) = b4 -> decide (a = 2) = b5 -> znk k a = (((b1 || b2) && b3) || (b4 && b5)) := fun b1 b2 b3 b4 b5 h1 h2 h3 h4 h5 => by rw [znk, h1, h2, h3, h4, h5]
 obtain ⟨c2, e2⟩ : ∃ b, decide (k = 7) = b := ⟨_, rfl⟩
 obtain ⟨c3, e3⟩ : ∃ b, decide (a = 1) = b := ⟨_, rfl⟩
 obtain ⟨c4, e4⟩ : ∃ b, decide (k = 8) = b := ⟨_, rfl⟩
 obtain ⟨c5, e5⟩ : ∃ b, decide (a = 2) = b := ⟨_, rfl⟩
 refine zaf zac [] _ _ _ ?_
 refine zad (fun h1 => ?_) (fun h1 => ?_)
 ·refine zad (fun h3 => ?_) (fun h3 => ?_)
  ·exact ⟨_, rfl, Told.val (by rw [fin _ _ _ _ _ h1 e2 h3 e4 e5]; cases c2 <;> cases c4 <;> cases c5 <;> rfl)⟩
  ·refine zad (fun h4 => ?_) (fun h4 => ?_)
   ·exact ⟨_, rfl, Told.val (by rw [fin _ _ _ _ _ h1 e2 h3 h4 rfl]; cases c2 <;> rfl)⟩
   ·exact ⟨_, rfl, Told.val (by rw [fin _ _ _ _ _ h1 e2 h3 h4 e5]; cases c2 <;> cases c5 <;> rfl)⟩
 ·refine zad (fun h2 => ?_) (fun h2 => ?_)
  ·refine zad (fun h3 => ?_) (fun h3 => ?_)
   ·exact ⟨_, rfl, Told.val (by rw [fin _ _ _ _ _ h1 h2 h3 e4 e5]; cases c4 <;> cases c5 <;> rfl)⟩
   ·refine zad (fun h4 => ?_) (fun h4 => ?_)
    ·exact ⟨_, rfl, Told.val (by rw [fin _ _ _ _ _ h1 h2 h3 h4 rfl]; rfl)⟩
    ·exact ⟨_, rfl, Told.val (by rw [fin _ _ _ _ _ h1 h2 h3 h4 e5]; cases c5 <;> rfl)⟩
  ·refine zad (fun h4 => ?_) (fun h4 => ?_)
   ·exact ⟨_, rfl, Told.val (by rw [fin _ _ _ _ _ h1 h2 e3 h4 rfl]; cases c3 <;> rfl)⟩
   ·exact ⟨_, rfl, Told.val (by rw [fin _ _ _ _ _ h1 h2 e3 h4 e5]; cases c3 <;> cases c5 <;> rfl)⟩
end Go.Proofs.YtmkpiekbpakigaaDoor
end
