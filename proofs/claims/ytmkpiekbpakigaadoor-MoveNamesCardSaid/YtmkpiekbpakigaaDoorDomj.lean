/- What the claim needs of Mv17, Mv18, Mv19, Mv20, Mv21, Mv22, Mv23, in one text. -/
import Derived.Test.YtmkpiekbpakigaaDoorDomi
section
set_option linter.unusedVariables false
set_option linter.unusedSimpArgs false
namespace Go.Proofs.YtmkpiekbpakigaaDoor
open Go.RowKit Go.Proofs.Base Go.Proofs.Sym
def zaa1 (t : TT) (q : Option Addr × Nat × List TT) : LRes := { v := .agg [.v (.int .i64 t.kind), .v (.int .i64 t.n), .v (.string t.name), .row 0, .v (.slice q.1 q.2.2.length q.2.1)], m := [(0, .own 24 5 t.ls.length (lvsC t.ls))], k := 1, F := fun w => TsIn w q.1 q.2.1 q.2.2 }
set_option maxHeartbeats 8000000 in
theorem zs7 (t : TT) (hB : tmB t.tm) : zav Tryd.prog 89 [ttA t] [] 0 (fun w => TTIn w t) (fun q : Option Addr × Nat × List TT => q.2.2.map TT.tm = t.args.map TT.tm) (zaa1 t) := by
 obtain ⟨k, n, s, la, lc, ls, aa, ac, us⟩ := t
 rw [zbs] at hB
 have hB2 := hB
 unfold tmB at hB2
 obtain ⟨hB1, hBu, hBs⟩ := hB2
 rw [List.length_map] at hBu
 have hus : us.length <= 1759218604390 := by omega
 have hc131 := zey la lc ls hB1
 refine zas zac 28 [.cell 2 41] Tryd.func89 rfl rfl (by kernel_rfl) rfl _ (leB rfl) (TTIn.upS _) ?_
 refine zaf zac [2] _ _ _ ?_
 refine zab [] hc131 rfl trivial rfl rfl (fun w h => ⟨h.1.node.hls, h.1.node.hla⟩) (fun _ _ => ⟨rfl, rfl⟩) (fun _ _ => ?_)
 refine zai.ent (st' := { s := [(1, .one (.p 0 0)), (2, .one (.p 1 0))], m := [(0, .cells 41 [.v (.int .i64 k), .v (.int .i64 n), .v (.string s), .row 2, .v (.slice aa us.length ac)]), (1, .cells 41 zap), (2, .own 24 5 ls.length (lvsC ls))], k := 3, f := [fun w => TTIn w (TT.mk k n s la lc ls aa ac us)] }) (zaa [(0, .blk 0), (1, .blk 1), (2, .own 2)] rfl rfl rfl rfl (leB rfl) ⟨⟨_, rfl, rfl⟩, ⟨_, rfl, rfl⟩, trivial⟩ ⟨⟨_, rfl, rfl⟩, ⟨_, rfl, rfl⟩, ⟨_, _, rfl, rfl, rfl⟩, trivial⟩ ⟨⟨TTIn.upS _, fun w h => h.2.1⟩, trivial⟩) ?_
 refine zaf zac [4] _ _ _ ?_
 refine zai.ent (st' := { s := [(1, .one (.p 0 0)), (2, .one (.p 1 0)), (3, .one (.v (.slice aa us.length ac)))], m := [(0, .cells 41 [.v (.int .i64 k), .v (.int .i64 n), .v (.string s), .row 2, .v (.slice none 0 0)]), (1, .cells 41 zap), (2, .own 24 5 ls.length (lvsC ls))], k := 3, f := [wG (fun _ => True) (TT.mk k n s la lc ls aa ac us) []] }) (zaa [(0, .blk 0), (1, .blk 1), (2, .own 2)] rfl rfl rfl rfl (leB rfl) ⟨⟨_, rfl, rfl⟩, ⟨_, rfl, rfl⟩, ⟨_, rfl, rfl⟩, trivial⟩ ⟨⟨_, rfl, rfl⟩, ⟨_, rfl, rfl⟩, ⟨_, _, rfl, rfl, rfl⟩, trivial⟩ ⟨⟨wG.up Up.true _ _, fun w h => ⟨⟨trivial, h.1⟩, fun x hx => by cases hx⟩⟩, trivial⟩) ?_
 refine zai.ent (zfz 0 41 5 ([.v (.int .i64 k), .v (.int .i64 n), .v (.string s), .row 2, .row 3]) rfl (fun e he => ?_) (fun h => ?_)) ?_
 ·show _ :: _ :: _ :: _ :: [e.rv 3] = _
  rw [show e.rv 3 = Value.slice none 0 0 from he]
  rfl
 ·intro c hc
  simp only [List.mem_cons, List.not_mem_nil, or_false] at hc
  rcases hc with rfl | rfl | rfl | rfl | rfl
  ·rfl
  ·rfl
  ·rfl
  ·exact Nat.lt_succ_of_lt (Nat.lt_succ_self _)
  ·exact Nat.lt_succ_self _
 refine zaf zac [6, 9] _ _ _ ?_
 refine ⟨⟨List TT, fun xs => xs.length <= us.length /\ xs.map TT.tm = (us.map TT.tm).take xs.length, fun xs => { s := [(1, .one (.p 0 0)), (2, .one (.p 1 0)), (3, .one (.v (.slice aa us.length ac))), (13, .one (.v (.slice aa us.length ac))), (14, .one (.v (.int .i64 (us.length : Int)))), (15, .one (.v (.int .i64 (xs.length : Int))))], m := [(0, .cells 41 [.v (.int .i64 k), .v (.int .i64 n), .v (.string s), .row 2, .row 3]), (1, .cells 41 zap), (2, .own 24 5 ls.length (lvsC ls)), (3, .own 41 5 xs.length (ttsC xs))], k := 4, f := [wG (fun _ => True) (TT.mk k n s la lc ls aa ac us) xs] }, fun xs => us.length - xs.length, ⟨[], ⟨Nat.zero_le _, rfl⟩, zaa [(0, .blk 0), (1, .blk 1), (2, .own 2), (3, .own 3)] rfl rfl rfl rfl (leB rfl) ⟨⟨_, rfl, rfl⟩, ⟨_, rfl, rfl⟩, ⟨_, rfl, rfl⟩, ⟨_, rfl, rfl⟩, ⟨_, rfl, rfl⟩, ⟨_, rfl, rfl⟩, trivial⟩ ⟨⟨_, rfl, rfl⟩, ⟨_, rfl, rfl⟩, ⟨_, _, rfl, rfl, rfl⟩, ⟨_, _, rfl, rfl, rfl⟩, trivial⟩ ⟨⟨wG.up Up.true _ _, fun w h => h.1⟩, trivial⟩⟩, ?_⟩⟩
 rintro xs ⟨hj, hxs⟩
 refine zad (fun hlt0 => ?_) (fun hge0 => ?_)
 rotate_left
 ·have hge : us.length = xs.length := by
   have h : decide ((xs.length : Int) < (us.length : Int)) = false := hge0
   have := of_decide_eq_false h
   omega
  refine zai.freeze 3 rfl (fun B cp f1 f2 f3 => ?_)
  refine zaf zac [] _ _ _ ?_
  refine ⟨_, rfl, (B, cp, xs), ?_, rfl, ?_⟩
  ·show xs.map TT.tm = us.map TT.tm
   rw [hxs, <- hge, List.take_of_length_le (by simp)]
  exact zaa [(0, .own 2)] rfl rfl rfl rfl (leB rfl) ⟨⟨_, rfl, rfl⟩, trivial⟩ ⟨⟨_, _, rfl, rfl, rfl⟩, trivial⟩ ⟨⟨TsIn.up _ _ _, fun w h => ⟨zez xs 0 (fun i u hi => by
   rw [Nat.zero_mul, Nat.zero_add]
   exact h.1 i u hi) h.2.1.2, f1, f2, f3⟩⟩, trivial⟩
 have hlt : xs.length < us.length := by
  have h : decide ((xs.length : Int) < (us.length : Int)) = true := hlt0
  have := of_decide_eq_true h
  omega
 clear hlt0
 obtain ⟨u, hu⟩ : ∃ u, us[xs.length]? = some u := ⟨_, List.getElem?_eq_getElem hlt⟩
 have hmem := List.mem_of_getElem? hu
 have hrec := zi6 u (zg0 hBs (List.mem_map_of_mem hmem)) []
 have htk : (us.map TT.tm).take (xs.length + 1) = xs.map TT.tm ++ [u.tm] := by
  rw [List.take_add_one, <- hxs, List.getElem?_map, hu]
  rfl
 refine zai.told (p := ∃ a, aa = some a) (fun w h => ?_) ?_
 ·obtain ⟨⟨a, ha, _⟩, _⟩ := h.1.1.2.arg hu
  exact ⟨a, ha⟩
 rintro ⟨b0, rfl⟩
 obtain ⟨ut, hut⟩ : ∃ x, u.tm = x := ⟨_, rfl⟩
 rw [hut] at hrec htk
 obtain ⟨uk, un, unm, ula, ulc, uls, uaa, uac, uus⟩ := u
 refine zaf zac [7] _ _ _ ?_
 refine ⟨{ n := xs.length }, ⟨rfl, hlt, fun w h => rfl⟩, ?_⟩
 refine ⟨{ cs := (TT.mk uk un unm ula ulc uls uaa uac uus).cells }, ⟨TT.cells_one (TT.mk uk un unm ula ulc uls uaa uac uus), rfl, fun w h => ?_⟩, ?_⟩
 ·obtain ⟨⟨a, ha, hc⟩, _⟩ := h.1.1.2.arg hu
  cases ha
  exact ⟨_, rfl, hc⟩
 refine zai.ent (st' := { s := [(1, .one (.p 0 0)), (2, .one (.p 1 0)), (3, .one (.v (.slice (some b0) us.length ac))), (13, .one (.v (.slice (some b0) us.length ac))), (14, .one (.v (.int .i64 (us.length : Int)))), (15, .one (.v (.int .i64 (xs.length : Int)))), (5, .one (.p 4 0))], m := [(0, .cells 41 [.v (.int .i64 k), .v (.int .i64 n), .v (.string s), .row 2, .row 3]), (1, .cells 41 zap), (2, .own 24 5 ls.length (lvsC ls)), (3, .own 41 5 xs.length (ttsC xs)), (4, .cells 41 ((TT.mk uk un unm ula ulc uls uaa uac uus).cells.map SA.v))], k := 5, f := [wG (fun _ => True) (TT.mk k n s la lc ls (some b0) ac us) xs] }) (zaa [(0, .blk 0), (1, .blk 1), (2, .own 2), (3, .own 3), (4, .blk 4)] rfl rfl rfl rfl (leB rfl) ⟨⟨_, rfl, rfl⟩, ⟨_, rfl, rfl⟩, ⟨_, rfl, rfl⟩, ⟨_, rfl, rfl⟩, ⟨_, rfl, rfl⟩, ⟨_, rfl, rfl⟩, ⟨_, rfl, rfl⟩, trivial⟩ ⟨⟨_, rfl, rfl⟩, ⟨_, rfl, rfl⟩, ⟨_, _, rfl, rfl, rfl⟩, ⟨_, _, rfl, rfl, rfl⟩, ⟨_, rfl, rfl⟩, trivial⟩ ⟨⟨wG.up Up.true _ _, fun w h => h.1⟩, trivial⟩) ?_
 have hfit1 : xs.length + 1 <= maxLen := by simp only [maxLen]; omega
 have hfit2 : (xs.length + 1) * 80 <= 140737488355328 := by omega
 refine zaf zac [] _ _ _ ?_
 let hS : List (Nat × SV) := [(1, .one (.p 0 0)), (2, .one (.p 1 0)), (3, .one (.v (.slice (some b0) us.length ac))), (13, .one (.v (.slice (some b0) us.length ac))), (14, .one (.v (.int .i64 (us.length : Int)))), (15, .one (.v (.int .i64 (xs.length : Int)))), (5, .one (.p 4 0))]
 let hM : List (Nat × LB) := [(0, .cells 41 [.v (.int .i64 k), .v (.int .i64 n), .v (.string s), .row 2, .row 3]), (1, .cells 41 zap), (2, .own 24 5 ls.length (lvsC ls)), (3, .own 41 5 xs.length (ttsC xs)), (4, .cells 41 ((TT.mk uk un unm ula ulc uls uaa uac uus).cells.map SA.v))]
 let hF : List (World -> Prop) := [wG (fun _ => True) (TT.mk k n s la lc ls (some b0) ac us) xs]
 refine .inr ⟨[0, 1, 0, 4, 12, 31, 63, 127], [3, 4, 5, 7], [(0, { dst := some 19, v := .one (.p 0 4), p := none, f := none }), (1, { dst := some 20, v := .one (.row 3), p := none, f := none }), (2, { dst := some 21, v := ttA (TT.mk uk un unm ula ulc uls uaa uac uus), p := none, f := none }), (6, { dst := some 25, v := .one (.p 0 4), p := none, f := none })], by kernel_rfl, rfl, by kernel_rfl, by kernel_rfl, rfl, rfl, rfl, rfl, ?_⟩
 refine zam ({ s := hS, m := hM, k := 5, f := hF }) [3] rfl (by kernel_rfl) (by kernel_rfl) ⟨⟨rfl, rfl⟩, ⟨rfl, rfl⟩, ⟨rfl, rfl⟩, ⟨rfl, rfl⟩, trivial⟩ ⟨?_, trivial⟩
 refine ⟨_, rfl, rfl, _, rfl, ?_⟩
 refine zab [] hrec rfl trivial rfl rfl (fun w h => ⟨(h.1.1.2.arg hu).2, zan.nil _⟩) (fun x _ => ?_) (fun x hx => ?_)
 ·obtain ⟨⟨vk, vn, vnm, vla, vlc, vls, vaa, vac, vus⟩, S1⟩ := x
  exact ⟨rfl, rfl⟩
 obtain ⟨x, S1⟩ := x
 obtain ⟨hx, hx2, _⟩ := hx
 have hx : x.tm = ut := hx
 have hxI : ∀ w, zan S1 w -> TTIn w x := fun w h => TM.inW x S1 hx2 h
 have hxm : (xs ++ [x]).map TT.tm = (us.map TT.tm).take (xs.length + 1) := by
  rw [List.map_append, htk, List.map_cons, hx]
  rfl
 clear hx hx2
 obtain ⟨vk, vn, vnm, vla, vlc, vls, vaa, vac, vus⟩ := x
 let x3 : Nat × SV := (22, ttA (TT.mk vk vn vnm vla vlc vls vaa vac vus))
 let f3 : World -> Prop := zan S1
 let x4 : Nat × SV := (23, .one (.sl 5 0 1 1))
 let m4a : Nat × LB := (5, .cells 41 ((TT.mk vk vn vnm vla vlc vls vaa vac vus).cells.map SA.v))
 let x5 : Nat × SV := (24, .one (.row 6))
 let m5a : Nat × LB := (6, .own 41 5 (xs.length + 1) (ttsC xs ++ (TT.mk vk vn vnm vla vlc vls vaa vac vus).cells))
 let m5b : Nat × LB := (3, .dead)
 let m7a : Nat × LB := (0, .cells 41 [.v (.int .i64 k), .v (.int .i64 n), .v (.string s), .row 2, .row 6])
 refine zam ({ s := x3 :: hS, m := hM, k := 5, f := f3 :: hF }) [4] rfl (by kernel_rfl) (by kernel_rfl) ⟨⟨rfl, rfl⟩, ⟨rfl, rfl⟩, ⟨rfl, trivial⟩, ⟨rfl, rfl⟩, trivial⟩ ⟨?_, trivial⟩
 refine ⟨_, rfl, rfl, _, rfl, ?_⟩
 refine zam ({ s := x4 :: x3 :: hS, m := m4a :: hM, k := 6, f := f3 :: hF }) [5] rfl (by kernel_rfl) (by kernel_rfl) ⟨⟨rfl, rfl⟩, ⟨rfl, rfl⟩, ⟨rfl, trivial⟩, ⟨rfl, rfl⟩, trivial⟩ ⟨?_, trivial⟩
 refine ⟨_, rfl, rfl, _, rfl, ?_⟩
 refine ⟨{}, ⟨trivial, by decide, .inr rfl, hfit1, hfit2⟩, ?_⟩
 refine zam ({ s := x5 :: x4 :: x3 :: hS, m := m5a :: m5b :: m4a :: hM, k := 7, f := f3 :: hF }) [7] rfl (by kernel_rfl) (by kernel_rfl) ⟨⟨rfl, trivial⟩, ⟨rfl, trivial⟩, ⟨rfl, trivial⟩, ⟨rfl, rfl⟩, trivial⟩ ⟨?_, trivial⟩
 refine ⟨_, rfl, rfl, _, rfl, ?_⟩
 refine zcm _ rfl (by kernel_rfl) ⟨⟨rfl, trivial⟩, ⟨rfl, trivial⟩, ⟨rfl, trivial⟩, ⟨rfl, trivial⟩, trivial⟩ ?_
 exact ⟨xs ++ [(TT.mk vk vn vnm vla vlc vls vaa vac vus)], ⟨by simp only [List.length_append, List.length_singleton]; omega, by simp only [List.length_append, List.length_singleton]; exact hxm⟩, by simp only [List.length_append, List.length_singleton]; omega, zaa [(0, .blk 0), (1, .blk 1), (2, .own 2), (3, .own 6)] rfl rfl rfl rfl (leB rfl) ⟨⟨_, rfl, rfl⟩, ⟨_, rfl, rfl⟩, ⟨_, rfl, rfl⟩, ⟨_, rfl, rfl⟩, ⟨_, rfl, rfl⟩, ⟨_, rfl, by simp only [List.length_append, List.length_singleton]; exact oneI (za9 (by omega) (by omega))⟩, trivial⟩ ⟨⟨_, rfl, rfl⟩, ⟨_, rfl, rfl⟩, ⟨_, _, rfl, rfl, rfl⟩, ⟨_, _, rfl, by simp, by simp [ttsC]⟩, trivial⟩ ⟨⟨wG.up Up.true _ _, fun w h => ⟨h.2.1.1, fun x hx => (List.mem_append.1 hx).elim (h.2.1.2 x) (fun hx => by rw [List.mem_singleton.1 hx]; exact hxI w h.1)⟩⟩, trivial⟩⟩
end Go.Proofs.YtmkpiekbpakigaaDoor
end
section
set_option linter.unusedVariables false
set_option linter.unusedSimpArgs false
namespace Go.Proofs.YtmkpiekbpakigaaDoor
open Go.RowKit Go.Proofs.Base Go.Proofs.Sym
def zpy (x : Lv) : Bool -> Option (List Lv) -> Option (List Lv)
 | true, some xs => some (x :: xs)
 | _, _ => none
def zda (bs : List Lv) : List Lv -> Option (List Lv)
 | [] => some []
 | l :: r => zpy (l.inst bs).1 (l.inst bs).2 (zda bs r)
def lvlT (k n : Int) (s : ByteArray) (us : List Tm) : Bool -> Option (List Lv) -> Option (Option Tm)
 | true, _ => some none
 | false, none => none
 | false, some xs => some (some (.mk k n s xs us))
def lvlR (bs : List Lv) : Tm -> Int -> Option (Option Tm)
 | .mk k n s ls us, _ => lvlT k n s us (decide ((ls.length : Int) = 0)) (zda bs ls)
def zit (ys : List Lv) : Option (List Lv) -> Option (List Lv)
 | none => none
 | some xs => some (ys ++ xs)
theorem zo5 (bs : List Lv) (l : Lv) (r xs : List Lv) : zit xs (zda bs (l :: r)) = match (l.inst bs).2 with
  | false => none
  | true => zit (xs ++ [(l.inst bs).1]) (zda bs r) := by
 rw [zda]
 cases (l.inst bs).2 with
 | false => cases zda bs r <;> rfl
 | true => cases zda bs r <;> simp [zpy, zit]
theorem zk3 (xs ys : List Lv) : lvsC (xs ++ ys) = lvsC xs ++ lvsC ys := by simp [lvsC]
theorem zwd (xs r : List Lv) (l x : Lv) : (lvsC (xs ++ (l :: r))).take (xs.length * 5) ++ (zbh x ++ (lvsC (xs ++ (l :: r))).drop (xs.length * 5 + (zbh x).length)) = lvsC ((xs ++ [x]) ++ r) := by
 have hl : (lvsC xs).length = xs.length * 5 := zhg xs
 have e : lvsC (xs ++ (l :: r)) = lvsC xs ++ (zbh l ++ lvsC r) := by
  rw [zk3]
  rfl
 rw [e, List.take_left' hl, <- List.drop_drop, List.drop_left' hl, List.drop_left' (show (zbh l).length = (zbh x).length from rfl), zk3, zk3]
 simp [lvsC]
structure lvlP (a1 : Addr) (B : Option Addr) (c : Nat) (bs : List Lv) (w : World) : Prop where
 h1 : w.cell? a1 = some (.slice B bs.length c)
 h2 : zcz w B bs
theorem lvlP.up (a1 : Addr) (B : Option Addr) (c : Nat) (bs : List Lv) : Up (lvlP a1 B c bs) := fun w w' h hp => ⟨h.cell hp.h1, zcz.up _ _ _ _ h hp.h2⟩
def lvG (a1 : Addr) (B : Option Addr) (c : Nat) (bs : List Lv) (t : TT) (A : Option Addr) (cp : Nat) (vs : List TT) (w : World) : Prop := (lvlP a1 B c bs w /\ TTIn w t) /\ TsIn w A cp vs
theorem lvG.up (a1 : Addr) (B : Option Addr) (c : Nat) (bs : List Lv) (t : TT) (A : Option Addr) (cp : Nat) (vs : List TT) : Up (lvG a1 B c bs t A cp vs) := ((lvlP.up _ _ _ _).and (TTIn.upS _)).and (TsIn.up _ _ _)
set_option maxHeartbeats 8000000 in
theorem znt (a1 : Addr) (B : Option Addr) (c : Nat) (bs : List Lv) (t : TT) (d : Int) (hB : tmB t.tm) : zav Tryd.prog 94 [ttA t, .one (.v (.int .i64 d)), .one (.v (.pointer (some a1)))] [] 0 (fun w => lvlP a1 B c bs w /\ TTIn w t) (ze5 (lvlR bs t.tm d)) (zb7 (lvlR bs t.tm d)) := by
 obtain ⟨k, n, s, la, lc, ls, aa, ac, us⟩ := t
 have hcl := zs7 (TT.mk k n s la lc ls aa ac us) hB
 rw [zbs] at hB ⊢
 unfold tmB at hB
 have hls : ls.length <= 3518437208781 := by omega
 have hspec := show lvlR bs (.mk k n s ls (us.map TT.tm)) d = lvlT k n s (us.map TT.tm) (decide ((ls.length : Int) = 0)) (zda bs ls) from rfl
 obtain ⟨R, hR⟩ : ∃ R, lvlR bs (.mk k n s ls (us.map TT.tm)) d = R := ⟨_, rfl⟩
 rw [hR] at hspec ⊢
 clear hR
 obtain ⟨W0, hW0⟩ : ∃ W, zda bs ls = W := ⟨_, rfl⟩
 rw [hW0] at hspec
 have hb0 : ∀ q, decide ((ls.length : Int) = 0) = q -> R = lvlT k n s (us.map TT.tm) q W0 := fun q e => by rw [<- e]; exact hspec
 clear hspec
 refine zas zac 42 [.cell 5 41, .tmp 6] Tryd.func94 rfl rfl (by kernel_rfl) rfl _ (leB rfl) ((lvlP.up _ _ _ _).and (TTIn.upS _)) ?_
 refine zaf zac [3] _ _ _ ?_
 refine zad (fun h0 => ?_) (fun h0 => ?_)
 ·have h0 : decide ((ls.length : Int) = 0) = true := h0
  have e := hb0 _ h0
  have e : R = some none := e
  subst e
  exact ⟨_, rfl, zba 0 0 ⟨#[]⟩, trivial, rfl, zaa [] rfl rfl rfl rfl (leB rfl) (rs rfl rfl) trivial ⟨⟨Up.true, fun _ _ => trivial⟩, trivial⟩⟩
 have h0 : decide ((ls.length : Int) = 0) = false := h0
 have hRW := hb0 _ h0
 clear hb0 h0
 refine zaf zac [4] _ _ _ ?_
 refine zab [] hcl rfl trivial rfl rfl (fun w h => h.1.2) (fun _ _ => ⟨rfl, rfl⟩) (fun q hq => ?_)
 obtain ⟨A, cp, vs⟩ := q
 have hq : vs.map TT.tm = us.map TT.tm := hq
 refine zai.ent (st' := { s := [(2, .one (.v (.pointer (some a1)))), (3, .one (.p 0 0)), (5, .one (.p 1 0)), (7, .one (.p 3 0))], m := [(0, .cells 41 ((TT.mk k n s la lc ls aa ac us).cells.map SA.v)), (1, .cells 41 zap), (2, .own 24 5 ls.length (lvsC ls)), (3, .cells 41 [.v (.int .i64 k), .v (.int .i64 n), .v (.string s), .row 2, .v (.slice A vs.length cp)])], k := 4, f := [lvG a1 B c bs (TT.mk k n s la lc ls aa ac us) A cp vs] }) (zaa [(0, .blk 0), (1, .blk 1), (2, .own 2), (3, .blk 3)] rfl rfl rfl rfl (leB rfl) ⟨⟨_, rfl, rfl⟩, ⟨_, rfl, rfl⟩, ⟨_, rfl, rfl⟩, ⟨_, rfl, rfl⟩, trivial⟩ ⟨⟨_, rfl, rfl⟩, ⟨_, rfl, rfl⟩, ⟨_, _, rfl, rfl, rfl⟩, ⟨_, rfl, rfl⟩, trivial⟩ ⟨⟨lvG.up _ _ _ _ _ _ _ _, fun w h => ⟨h.2.1, h.1⟩⟩, trivial⟩) ?_
 refine zaf zac [6, 11] _ _ _ ?_
 refine ⟨⟨List Lv, fun xs => xs.length <= ls.length /\ zit xs (zda bs (ls.drop xs.length)) = W0, fun xs => { s := [(2, .one (.v (.pointer (some a1)))), (3, .one (.p 0 0)), (5, .one (.p 1 0)), (7, .one (.p 3 0)), (20, .one (.v (.slice la ls.length lc))), (21, .one (.v (.int .i64 (ls.length : Int)))), (22, .one (.v (.int .i64 (xs.length : Int))))], m := [(0, .cells 41 ((TT.mk k n s la lc ls aa ac us).cells.map SA.v)), (1, .cells 41 zap), (2, .own 24 5 ls.length (lvsC (xs ++ ls.drop xs.length))), (3, .cells 41 [.v (.int .i64 k), .v (.int .i64 n), .v (.string s), .row 2, .v (.slice A vs.length cp)])], k := 4, f := [lvG a1 B c bs (TT.mk k n s la lc ls aa ac us) A cp vs] }, fun xs => ls.length - xs.length, ⟨[], ⟨Nat.zero_le _, ?_⟩, zaa [(0, .blk 0), (1, .blk 1), (2, .own 2), (3, .blk 3)] rfl rfl rfl rfl (leB rfl) ⟨⟨_, rfl, rfl⟩, ⟨_, rfl, rfl⟩, ⟨_, rfl, rfl⟩, ⟨_, rfl, rfl⟩, ⟨_, rfl, rfl⟩, ⟨_, rfl, rfl⟩, ⟨_, rfl, rfl⟩, trivial⟩ ⟨⟨_, rfl, rfl⟩, ⟨_, rfl, rfl⟩, ⟨_, _, rfl, rfl, rfl⟩, ⟨_, rfl, rfl⟩, trivial⟩ ⟨⟨lvG.up _ _ _ _ _ _ _ _, fun w h => h.1⟩, trivial⟩⟩, ?_⟩⟩
 ·show zit [] (zda bs ls) = W0
  rw [hW0]
  cases W0 <;> rfl
 clear hW0
 rintro xs ⟨hj, hW⟩
 refine zad (fun hlt0 => ?_) (fun hge0 => ?_)
 rotate_left
 ·have hge : ls.length = xs.length := by
   have h : decide ((xs.length : Int) < (ls.length : Int)) = false := hge0
   have := of_decide_eq_false h
   omega
  have e : W0 = some xs := by
   rw [<- hW, List.drop_eq_nil_of_le (by omega)]
   simp [zda, zit]
  subst e
  have e : R = some (some (.mk k n s xs (us.map TT.tm))) := hRW
  subst e
  refine zai.freeze2 2 rfl (fun LA LC g0 g1 g2 g3 => ?_)
  refine zaf zac [] _ _ _ ?_
  refine ⟨_, rfl, TT.mk k n s LA LC xs A cp vs, ?_, rfl, ?_⟩
  ·show (TT.mk k n s LA LC xs A cp vs).tm = _
   rw [zbs, hq]
  rw [hge] at g1 g2
  refine zaa [] rfl rfl rfl rfl (leB rfl) ⟨⟨_, rfl, by rw [hge]; rfl⟩, trivial⟩ trivial ⟨⟨TTIn.upS _, fun w h => by
   have hn := h.2.1.1.2.node
   have hts := h.2.1.2
   show TTIn w (TT.mk k n s LA LC xs A cp vs)
   unfold TTIn
   have hsl := h.1
   rw [List.drop_eq_nil_of_le (by omega), List.append_nil] at hsl
   exact ⟨⟨hn.hkind, hn.hn, hn.hname, zh8 (by omega) g0 hsl, g1, g2, g3, hts.nil, hts.le, hts.max⟩, hts.tts⟩⟩, trivial⟩
 have hlt : xs.length < ls.length := by
  have h : decide ((xs.length : Int) < (ls.length : Int)) = true := hlt0
  have := of_decide_eq_true h
  omega
 clear hlt0
 obtain ⟨l, hl⟩ : ∃ l, ls[xs.length]? = some l := ⟨_, List.getElem?_eq_getElem hlt⟩
 have hdr : ls.drop xs.length = l :: ls.drop (xs.length + 1) := by
  rw [List.drop_eq_getElem_cons hlt]
  simp [(List.getElem?_eq_some_iff.1 hl).2]
 have hstep := zo5 bs l (ls.drop (xs.length + 1)) xs
 rw [<- hdr, hW] at hstep
 have hin := zyq l B bs bs.length c rfl
 have hput := zwd xs (ls.drop (xs.length + 1)) l (l.inst bs).1
 rw [<- hdr] at hput
 obtain ⟨y, hy⟩ : ∃ y, (l.inst bs).1 = y := ⟨_, rfl⟩
 obtain ⟨b, hb⟩ : ∃ y, (l.inst bs).2 = y := ⟨_, rfl⟩
 rw [hy, hb] at hin
 rw [hy] at hput
 rw [hb, hy] at hstep
 have hnd := zks b (b := b) rfl
 clear hy hb
 obtain ⟨y0, y1, y2, y3, y4⟩ := y
 have hlen : (lvsC (xs ++ ls.drop xs.length)).length = ls.length * 5 := by
  rw [zhg, List.length_append, List.length_drop]
  omega
 refine zai.told (p := ∃ a, la = some a) (fun w h => ?_) ?_
 ·obtain ⟨a, ha, _⟩ := zck h.1.1.2.node.hls hl
  exact ⟨a, ha⟩
 rintro ⟨b0, rfl⟩
 refine zaf zac [8] _ _ _ ?_
 refine ⟨{ n := xs.length }, ⟨rfl, hlt, fun w h => rfl⟩, ?_⟩
 refine ⟨{ cs := zbh l }, ⟨zca l, rfl, fun w h => ?_⟩, ?_⟩
 ·obtain ⟨a, ha, hc⟩ := zck h.1.1.2.node.hls hl
  cases ha
  exact ⟨_, rfl, hc⟩
 refine ⟨{ v := .slice B bs.length c }, fun w h => ⟨_, rfl, h.1.1.1.h1⟩, ?_⟩
 refine zae hin (fun _ => rfl) (fun w h => h.1.1.1.h2) ?_
 rintro r rfl
 refine zai.ent (st' := { s := [(2, .one (.v (.pointer (some a1)))), (3, .one (.p 0 0)), (5, .one (.p 1 0)), (7, .one (.p 3 0)), (20, .one (.v (.slice (some b0) ls.length lc))), (21, .one (.v (.int .i64 (ls.length : Int)))), (22, .one (.v (.int .i64 (xs.length : Int)))), (8, .one (.v (.int .i64 (xs.length : Int)))), (10, .one (.p 4 0)), (11, .one (.v (.bool b)))], m := [(0, .cells 41 ((TT.mk k n s (some b0) lc ls aa ac us).cells.map SA.v)), (1, .cells 41 zap), (2, .own 24 5 ls.length (lvsC (xs ++ ls.drop xs.length))), (3, .cells 41 [.v (.int .i64 k), .v (.int .i64 n), .v (.string s), .row 2, .v (.slice A vs.length cp)]), (4, .cells 24 ((zbh ⟨y0, y1, y2, y3, y4⟩).map SA.v))], k := 5, f := [lvG a1 B c bs (TT.mk k n s (some b0) lc ls aa ac us) A cp vs] }) (zaa [(0, .blk 0), (1, .blk 1), (2, .own 2), (3, .blk 3), (4, .blk 5)] rfl rfl rfl rfl (leB rfl) ⟨⟨_, rfl, rfl⟩, ⟨_, rfl, rfl⟩, ⟨_, rfl, rfl⟩, ⟨_, rfl, rfl⟩, ⟨_, rfl, rfl⟩, ⟨_, rfl, rfl⟩, ⟨_, rfl, rfl⟩, ⟨_, rfl, rfl⟩, ⟨_, rfl, rfl⟩, ⟨_, rfl, rfl⟩, trivial⟩ ⟨⟨_, rfl, rfl⟩, ⟨_, rfl, rfl⟩, ⟨_, _, rfl, rfl, rfl⟩, ⟨_, rfl, rfl⟩, ⟨_, rfl, rfl⟩, trivial⟩ ⟨⟨lvG.up _ _ _ _ _ _ _ _, fun w h => h.2.1⟩, trivial⟩) ?_
 cases b with
 | false =>
  have e : W0 = none := hstep
  subst e
  have e : R = none := hRW
  subst e
  refine zaf zac [9] _ _ _ ?_
  refine zab [] hnd rfl trivial rfl rfl (fun _ _ => trivial) (fun _ _ => ⟨rfl, rfl⟩) (fun _ _ => ?_)
  exact ⟨zba 0 0 ⟨#[]⟩, trivial, rfl, zaa [] rfl rfl rfl rfl (leB rfl) (rs rfl rfl) trivial ⟨⟨Up.true, fun _ _ => trivial⟩, trivial⟩⟩
 | true =>
 have hstep : W0 = zit (xs ++ [⟨y0, y1, y2, y3, y4⟩]) (zda bs (ls.drop (xs.length + 1))) := hstep
 refine zaf zac [9] _ _ _ ?_
 refine zab [] hnd rfl trivial rfl rfl (fun _ _ => trivial) (fun _ _ => ⟨rfl, rfl⟩) (fun _ _ => ?_)
 refine zaf zac [] _ _ _ ?_
 refine ⟨{ n := xs.length }, ⟨rfl, hlt, rfl⟩, ?_⟩
 refine ⟨⟨rfl, Nat.succ_pos _, ?_, ?_⟩, ?_⟩
 ·show xs.length * 5 + 5 <= (lvsC (xs ++ ls.drop xs.length)).length
  rw [hlen]
  omega
 ·intro u hu
  exact zca ⟨y0, y1, y2, y3, y4⟩ u hu
 refine ⟨xs ++ [⟨y0, y1, y2, y3, y4⟩], ⟨by simp only [List.length_append, List.length_singleton]; omega, by simp only [List.length_append, List.length_singleton]; exact hstep.symm⟩, by simp only [List.length_append, List.length_singleton]; omega, ?_⟩
 exact zaa [(0, .blk 0), (1, .blk 1), (2, .own 2), (3, .blk 3)] rfl rfl rfl rfl (leB rfl) ⟨⟨_, rfl, rfl⟩, ⟨_, rfl, rfl⟩, ⟨_, rfl, rfl⟩, ⟨_, rfl, rfl⟩, ⟨_, rfl, rfl⟩, ⟨_, rfl, rfl⟩, ⟨_, rfl, by simp only [List.length_append, List.length_singleton]; exact oneI (za9 (by omega) (by omega))⟩, trivial⟩ ⟨⟨_, rfl, rfl⟩, ⟨_, rfl, rfl⟩, ⟨_, _, rfl, rfl, by simp only [List.length_append, List.length_singleton]; exact hput⟩, ⟨_, rfl, rfl⟩, trivial⟩ ⟨⟨lvG.up _ _ _ _ _ _ _ _, fun w h => h.2.1⟩, trivial⟩
end Go.Proofs.YtmkpiekbpakigaaDoor
end
section
set_option linter.unusedVariables false
set_option linter.unusedSimpArgs false
namespace Go.Proofs.YtmkpiekbpakigaaDoor
open Go.RowKit Go.Proofs.Base Go.Proofs.Sym
def zid (bs : List Lv) (t : Tm) : Option Tm := ze6 (lvlR bs) t
set_option maxHeartbeats 4000000 in
theorem zu4 (t : TT) (B : Option Addr) (c : Nat) (bs : List Lv) (hB : tmB t.tm) : zav Tryd.prog 45 [ttA t, .one (.v (.slice B bs.length c))] [] 0 (fun w => (ML w /\ zcz w B bs) /\ TTIn w t) (ze5 (some (zid bs t.tm))) (zb7 (some (zid bs t.tm))) := by
 have hmade := fun g : Nat => zv4 94 (.pointer (some ⟨g, 0, none⟩)) (lvlP ⟨g, 0, none⟩ B c bs) (lvlP.up _ _ _ _) (lvlR bs) (fun t d h => znt ⟨g, 0, none⟩ B c bs t d h) t hB
 obtain ⟨R, hR⟩ : ∃ R, zid bs t.tm = R := ⟨_, rfl⟩
 rw [show ze6 (lvlR bs) t.tm = R from hR] at hmade
 rw [hR]
 clear hR
 obtain ⟨k, n, s, la, lc, ls, aa, ac, us⟩ := t
 refine zas zac 11 [.cell 4 41, .tmp 5] Tryd.func45 rfl rfl (by kernel_rfl) rfl _ (leB rfl) ((ML.up.and (zcz.up _ _)).and (TTIn.upS _)) ?_
 refine zaf zac [] _ _ _ ?_
 refine zau 1 (vs := [.slice B bs.length c]) rfl rfl (fun g => ?_)
 refine zab [] (hmade g) rfl trivial rfl rfl (fun w h => ⟨⟨h.2.1.1.1, ?_, h.2.1.1.2⟩, h.2.1.2⟩) (fun x _ => ?_) (fun x hx => ?_)
 ·obtain ⟨a, ha, hc⟩ := h.1 0 _ rfl
  cases ha
  exact hc
 ·obtain ⟨xk, xn, xnm, xla, xlc, xls, xaa, xac, xus⟩ := x
  cases R <;> exact ⟨rfl, rfl⟩
 obtain ⟨xk, xn, xnm, xla, xlc, xls, xaa, xac, xus⟩ := x
 cases R with
 | none => exact ⟨_, rfl, TT.mk xk xn xnm xla xlc xls xaa xac xus, hx, rfl, zaa [] rfl rfl rfl rfl (leB rfl) (rs rfl rfl) trivial ⟨⟨Up.true, fun _ _ => trivial⟩, trivial⟩⟩
 | some r => exact ⟨_, rfl, TT.mk xk xn xnm xla xlc xls xaa xac xus, hx, rfl, zaa [] rfl rfl rfl rfl (leB rfl) (rs rfl rfl) trivial ⟨⟨TTIn.upS _, fun w h => h.1⟩, trivial⟩⟩
end Go.Proofs.YtmkpiekbpakigaaDoor
end
section
set_option linter.unusedVariables false
set_option linter.unusedSimpArgs false
namespace Go.Proofs.YtmkpiekbpakigaaDoor
open Go.RowKit Go.Proofs.Base Go.Proofs.Sym
theorem zai.freezeB {P : Program} {N : Nat} {c : Code} {K : Exit -> St -> Prop} {st : St} (i : Nat) {t : TypeId} {cs : List SA} {vs : List Value} (hi : get i st.m = some (.cells t cs)) (hp : ∀ e, reals e cs = vs)
  (h : ∀ g, zai P N c K (sbSt (blkA i g) i (fun w => SlAt w (some ⟨g, 0, none⟩) vs) st)) : zai P N c K st := by
 refine ⟨fun cx e a w hn hS => (h (e.blk i)).run cx e a w hn ?_⟩
 have hm := hS.mem
 have hσ : zg4 (blkA i (e.blk i)) e := zet rfl
 refine ⟨hS.base, hS.size, hS.defers, fun t u hu => ?_, hm.spell hi hσ (SlAt.up _ _) ?_⟩
 ·obtain ⟨u0, h1, rfl⟩ := zir hu
  obtain ⟨h2, h3⟩ := hS.slots _ _ h1
  exact ⟨hσ.vlt h2, by rw [h3, hσ.v]⟩
 ·intro j u hj
  have hb := zb5 (H := fun g => cx.H g \/ ∃ j, j ≠ i /\ At e st.m j g) (hm.cells i t cs hi) (hm.others ⟨_, hi, rfl⟩)
  refine ⟨_, rfl, ?_⟩
  rw [zbl, cell_of_row _ (e.blk i) (0 + j) _ _ _ hb, hp e]
  simpa using hj
theorem zav.told {P : Program} {f : FuncId} {args : List SV} {m : List (Nat × LB)} {b : Nat} {pre pre' : World -> Prop} {X Y : Type} {ok : X -> Prop} {ret : X -> LRes} {ok' : Y -> Prop} {ret' : Y -> LRes} (h : zav P f args m b pre ok ret) (hu : Up pre') (hp : ∀ w, pre' w -> pre w)
  (g : X -> Y) (hok : ∀ x, ok x -> ok' (g x)) (hr : ∀ x, ok x -> ∃ F', Up F' /\ (∀ w, (ret x).F w -> F' w) /\ ret' (g x) = { v := (ret x).v, m := (ret x).m, k := (ret x).k, F := F', ch := (ret x).ch }) : zav P f args m b pre' ok' ret' := by
 refine ⟨hu, fun cx e w h1 h2 h3 hm hl => ?_⟩
 have hm' : Mem cx e m b [pre] w := ⟨hm.fr, hm.ids, hm.low, hm.cells, hm.own, hm.sc, hm.free, hm.apart, fun F hF => by rw [List.mem_singleton.1 hF]; exact h.up, fun F hF => by rw [List.mem_singleton.1 hF]; exact hp _ (hm.facts _ List.mem_cons_self)⟩
 obtain ⟨h4, h5⟩ := h.run cx e w h1 h2 h3 hm' hl
 refine ⟨h4, h5.mono ?_⟩
 rintro en w' ⟨e', x, hx, rfl, hv, hc⟩
 obtain ⟨F', hU, hF, he⟩ := hr x hx
 refine ⟨e', g x, hok x hx, by rw [he]; rfl, by rw [he]; exact hv, ?_⟩
 rw [he]
 exact ⟨hc.fr, hc.ids, hc.low, hc.cells, hc.own, hc.sc, hc.free, hc.apart, fun F hF => by rw [List.mem_singleton.1 hF]; exact hU, fun G hG => by rw [List.mem_singleton.1 hG]; exact hF _ (hc.facts _ List.mem_cons_self)⟩
def zk9 (x : TT) : LRes := { v := ttA x, m := [], k := 0, F := fun w => TTIn w x }
theorem zdf (t : TT) (hB : tmB t.tm) : zav Tryd.prog 89 [ttA t] [] 0 (fun w => TTIn w t) (fun x : TT => x.tm = t.tm) zk9 :=
 zav.told (zi6 t hB []) (TTIn.upS _) (fun w h => ⟨h, zan.nil _⟩) (fun q => q.1) (fun q h => h.1) (fun q h => ⟨_, TTIn.upS q.1, fun w hw => TM.inW _ _ h.2.1 hw, rfl⟩)
theorem I64.small (n : Int) (h0 : 0 <= n) (h1 : n <= 1000) : I64 n := by
 unfold I64
 omega
theorem zpa {w : World} {g : Nat} (k : Int) (x y : TT) (n : Int) (s : ByteArray) (hk : I64 k) (hn : I64 n) (hs : s.size <= maxLen) (h : SlAt w (some ⟨g, 0, none⟩) (x.cells ++ y.cells)) (hx : TTIn w x) (hy : TTIn w y) : TTIn w (.mk k n s none 0 [] (some ⟨g, 0, none⟩) 2 [x, y]) := by
 unfold TTIn
 refine ⟨⟨hk, hn, hs, ⟨by simp, fun h => by simp at h⟩, fun _ => ⟨rfl, rfl⟩, Nat.le_refl _, Nat.zero_le _, fun h => (by cases h), Nat.le_refl _, by decide⟩, zez [x, y] 0 (fun i u hi => ?_) (fun z hz => ?_)⟩
 ·rw [Nat.zero_mul, Nat.zero_add]
  refine h i u ?_
  simpa [ttsC] using hi
 ·simp only [List.mem_cons, List.not_mem_nil, or_false] at hz
  rcases hz with rfl | rfl
  ·exact hx
  ·exact hy
def appT (f : Tm) (gs : List Tm) : Tm := gs.foldl (fun f a => .mk 5 0 ⟨#[]⟩ [] [f, a]) f
def aG (A : Option Addr) (c : Nat) (gs : List TT) (x : TT) (w : World) : Prop := TsIn w A c gs /\ TTIn w x
theorem aG.up (A : Option Addr) (c : Nat) (gs : List TT) (x : TT) : Up (aG A c gs x) := (TsIn.up _ _ _).and (TTIn.upS _)
set_option maxHeartbeats 8000000 in
theorem zsv (t : TT) (A : Option Addr) (c : Nat) (gs : List TT) (hB : tmB t.tm) (hBs : ∀ u ∈ gs, tmB u.tm) : zav Tryd.prog 71 [ttA t, .one (.v (.slice A gs.length c))] [] 0 (aG A c gs t) (fun x : TT => x.tm = appT t.tm (gs.map TT.tm)) zk9 := by
 have hc0 := zdf t hB
 obtain ⟨tt, htt⟩ : ∃ x, t.tm = x := ⟨_, rfl⟩
 rw [htt] at hc0 ⊢
 clear htt hB
 obtain ⟨k, n, s, la, lc, ls, aa, ac, us⟩ := t
 refine zas zac 23 [.cell 4 41] Tryd.func71 rfl rfl (by kernel_rfl) rfl _ (leB rfl) (aG.up _ _ _ _) ?_
 refine zai.told (p := gs.length <= 9223372036854775807) (fun w h => Nat.le_trans h.1.1.le (Nat.le_trans h.1.1.max (by decide))) (fun hgl => ?_)
 refine zaf zac [2] _ _ _ ?_
 refine zab [] hc0 rfl trivial rfl rfl (fun w h => h.1.2) (fun x _ => ?_) (fun x hx => ?_)
 ·obtain ⟨vk, vn, vnm, vla, vlc, vls, vaa, vac, vus⟩ := x
  exact ⟨rfl, rfl⟩
 have hx : x.tm = tt := hx
 obtain ⟨xt, hxt⟩ : ∃ y, x = y := ⟨_, rfl⟩
 obtain ⟨xk, xn, xnm, xla, xlc, xls, xaa, xac, xus⟩ := x
 refine zai.ent (st' := { s := [(1, .one (.v (.slice A gs.length c))), (4, .one (.p 0 0)), (5, .one (.p 1 0))], m := [(0, .cells 41 zap), (1, .cells 41 ((TT.mk xk xn xnm xla xlc xls xaa xac xus).cells.map SA.v))], k := 2, f := [aG A c gs (TT.mk xk xn xnm xla xlc xls xaa xac xus)] }) (zaa [(0, .blk 1), (1, .blk 2)] rfl rfl rfl rfl (leB rfl) (rs rfl rfl) (rm rfl rfl) ⟨⟨aG.up _ _ _ _, fun w h => ⟨h.2.1.1, h.1⟩⟩, trivial⟩) ?_
 refine zaf zac [4, 7] _ _ _ ?_
 refine ⟨⟨Nat × TT, fun q => q.1 <= gs.length /\ q.2.tm = appT tt ((gs.map TT.tm).take q.1), fun q => { s := [(4, .one (.p 0 0)), (5, .one (.p 1 0)), (10, .one (.v (.slice A gs.length c))), (11, .one (.v (.int .i64 (gs.length : Int)))), (12, .one (.v (.int .i64 (q.1 : Int))))], m := [(0, .cells 41 zap), (1, .cells 41 (q.2.cells.map SA.v))], k := 2, f := [aG A c gs q.2] }, fun q => gs.length - q.1, ⟨(0, (TT.mk xk xn xnm xla xlc xls xaa xac xus)), ⟨Nat.zero_le _, hx⟩, zaa [(0, .blk 0), (1, .blk 1)] rfl rfl rfl rfl (leB rfl) (rs rfl rfl) (rm rfl rfl) ⟨⟨aG.up _ _ _ _, fun w h => h.1⟩, trivial⟩⟩, ?_⟩⟩
 clear hxt hx
 rintro ⟨i, x⟩ ⟨hi, hx⟩
 have hi : i <= gs.length := hi
 have hx : x.tm = appT tt ((gs.map TT.tm).take i) := hx
 obtain ⟨xk, xn, xnm, xla, xlc, xls, xaa, xac, xus⟩ := x
 refine zad (fun hlt0 => ?_) (fun hge0 => ?_)
 rotate_left
 ·have hge : i = gs.length := by
   have h : decide ((i : Int) < (gs.length : Int)) = false := hge0
   have := of_decide_eq_false h
   omega
  refine zaf zac [] _ _ _ ?_
  refine ⟨_, rfl, (TT.mk xk xn xnm xla xlc xls xaa xac xus), ?_, rfl, ?_⟩
  ·show ((TT.mk xk xn xnm xla xlc xls xaa xac xus)).tm = _
   rw [hx, hge, List.take_of_length_le (by simp)]
  exact zaa [] rfl rfl rfl rfl (leB rfl) (rs rfl rfl) trivial ⟨⟨TTIn.upS _, fun w h => h.1.2⟩, trivial⟩
 have hlt : i < gs.length := by
  have h : decide ((i : Int) < (gs.length : Int)) = true := hlt0
  have := of_decide_eq_true h
  omega
 clear hlt0
 obtain ⟨u, hu⟩ : ∃ u, gs[i]? = some u := ⟨_, List.getElem?_eq_getElem hlt⟩
 have hmem := List.mem_of_getElem? hu
 have hcl := zdf u (hBs u hmem)
 have hstep : ∀ y, y = u.tm -> Tm.mk 5 0 ⟨#[]⟩ [] [((TT.mk xk xn xnm xla xlc xls xaa xac xus)).tm, y] = appT tt ((gs.map TT.tm).take (i + 1)) := fun y hy => by
  rw [List.take_add_one, List.getElem?_map, hu, hx, hy]
  simp [appT, List.foldl_append]
 clear hx
 refine zai.told (p := ∃ a, A = some a) (fun w h => ?_) ?_
 ·obtain ⟨⟨a, ha, _⟩, _⟩ := h.1.1.arg hu
  exact ⟨a, ha⟩
 rintro ⟨b0, rfl⟩
 obtain ⟨ut, hut⟩ : ∃ x, u.tm = x := ⟨_, rfl⟩
 rw [hut] at hcl hstep
 obtain ⟨uk, un, unm, ula, ulc, uls, uaa, uac, uus⟩ := u
 refine zaf zac [5, 6] _ _ _ ?_
 refine ⟨{ n := i }, ⟨rfl, hlt, fun w h => rfl⟩, ?_⟩
 refine ⟨{ cs := (TT.mk uk un unm ula ulc uls uaa uac uus).cells }, ⟨TT.cells_one (TT.mk uk un unm ula ulc uls uaa uac uus), rfl, fun w h => ?_⟩, ?_⟩
 ·obtain ⟨⟨a, ha, hc⟩, _⟩ := h.1.1.arg hu
  cases ha
  exact ⟨_, rfl, hc⟩
 refine zai.ent (st' := { s := [(4, .one (.p 0 0)), (5, .one (.p 1 0)), (10, .one (.v (.slice (some b0) gs.length c))), (11, .one (.v (.int .i64 (gs.length : Int)))), (12, .one (.v (.int .i64 (i : Int)))), (7, .one (.p 2 0))], m := [(0, .cells 41 zap), (1, .cells 41 ((TT.mk xk xn xnm xla xlc xls xaa xac xus).cells.map SA.v)), (2, .cells 41 ((TT.mk uk un unm ula ulc uls uaa uac uus).cells.map SA.v))], k := 3, f := [aG (some b0) c gs (TT.mk xk xn xnm xla xlc xls xaa xac xus)] }) (zaa [(0, .blk 0), (1, .blk 1), (2, .blk 2)] rfl rfl rfl rfl (leB rfl) (rs rfl rfl) (rm rfl rfl) ⟨⟨aG.up _ _ _ _, fun w h => h.1⟩, trivial⟩) ?_
 refine zaf zac [6] _ _ _ ?_
 let hS : List (Nat × SV) := [(4, .one (.p 0 0)), (5, .one (.p 1 0)), (10, .one (.v (.slice (some b0) gs.length c))), (11, .one (.v (.int .i64 (gs.length : Int)))), (12, .one (.v (.int .i64 (i : Int)))), (7, .one (.p 2 0))]
 let hM : List (Nat × LB) := [(0, .cells 41 zap), (1, .cells 41 ((TT.mk xk xn xnm xla xlc xls xaa xac xus).cells.map SA.v)), (2, .cells 41 ((TT.mk uk un unm ula ulc uls uaa uac uus).cells.map SA.v))]
 let hF : List (World -> Prop) := [aG (some b0) c gs (TT.mk xk xn xnm xla xlc xls xaa xac xus)]
 refine .inr ⟨[0, 0, 2, 7, 15, 31], [2, 3, 4, 5], [(0, { dst := some 16, v := ttA (TT.mk xk xn xnm xla xlc xls xaa xac xus), p := none, f := none }), (1, { dst := some 17, v := ttA (TT.mk uk un unm ula ulc uls uaa uac uus), p := none, f := none })], by kernel_rfl, rfl, by kernel_rfl, by kernel_rfl, rfl, rfl, rfl, rfl, ?_⟩
 refine zam ({ s := hS, m := hM, k := 3, f := hF }) [2] rfl (by kernel_rfl) (by kernel_rfl) ⟨⟨rfl, rfl⟩, ⟨rfl, rfl⟩, trivial⟩ ⟨?_, trivial⟩
 refine ⟨_, rfl, rfl, _, rfl, ?_⟩
 refine zab [] hcl rfl trivial rfl rfl (fun w h => (h.1.1.arg hu).2) (fun x _ => ?_) (fun x hx => ?_)
 ·obtain ⟨vk, vn, vnm, vla, vlc, vls, vaa, vac, vus⟩ := x
  exact ⟨rfl, rfl⟩
 have hx : x.tm = ut := hx
 have hnext := hstep x.tm hx
 clear hx hstep
 obtain ⟨vk, vn, vnm, vla, vlc, vls, vaa, vac, vus⟩ := x
 let x2 : Nat × SV := (18, ttA (TT.mk vk vn vnm vla vlc vls vaa vac vus))
 let f2 : World -> Prop := fun w => TTIn w (TT.mk vk vn vnm vla vlc vls vaa vac vus)
 let x3 : Nat × SV := (19, .one (.sl 3 0 2 2))
 let m3a : Nat × LB := (3, .cells 41 (((TT.mk xk xn xnm xla xlc xls xaa xac xus).cells ++ (TT.mk vk vn vnm vla vlc vls vaa vac vus).cells).map SA.v))
 let x4 : Nat × SV := (20, .agg [.v (.int .i64 5), .v (.int .i64 0), .v (.string ⟨#[]⟩), .v (.slice none 0 0), .sl 3 0 2 2])
 let m5a : Nat × LB := (1, .cells 41 [.v (.int .i64 5), .v (.int .i64 0), .v (.string ⟨#[]⟩), .v (.slice none 0 0), .sl 3 0 2 2])
 refine zam ({ s := x2 :: hS, m := hM, k := 3, f := f2 :: hF }) [3] rfl (by kernel_rfl) (by kernel_rfl) ⟨⟨rfl, rfl⟩, ⟨rfl, trivial⟩, trivial⟩ ⟨?_, trivial⟩
 refine ⟨_, rfl, rfl, _, rfl, ?_⟩
 refine zam ({ s := x3 :: x2 :: hS, m := m3a :: hM, k := 4, f := f2 :: hF }) [4] rfl (by kernel_rfl) (by kernel_rfl) ⟨⟨rfl, trivial⟩, ⟨rfl, trivial⟩, trivial⟩ ⟨?_, trivial⟩
 refine ⟨_, rfl, rfl, _, rfl, ?_⟩
 refine zam ({ s := x4 :: x3 :: x2 :: hS, m := m3a :: hM, k := 4, f := f2 :: hF }) [5] rfl (by kernel_rfl) (by kernel_rfl) ⟨⟨rfl, trivial⟩, ⟨rfl, trivial⟩, trivial⟩ ⟨?_, trivial⟩
 refine ⟨_, rfl, rfl, _, rfl, ?_⟩
 refine zcm _ rfl (by kernel_rfl) ⟨⟨rfl, trivial⟩, ⟨rfl, trivial⟩, trivial⟩ ?_
 refine zai.freezeB 3 (vs := (TT.mk xk xn xnm xla xlc xls xaa xac xus).cells ++ (TT.mk vk vn vnm vla vlc vls vaa vac vus).cells) rfl (fun e => rfl) (fun g => ?_)
 obtain ⟨Y, hY⟩ : ∃ Y, Y = TT.mk 5 0 ⟨#[]⟩ none 0 [] (some ⟨g, 0, none⟩) 2 [(TT.mk xk xn xnm xla xlc xls xaa xac xus), (TT.mk vk vn vnm vla vlc vls vaa vac vus)] := ⟨_, rfl⟩
 refine zai.ent (st' := { s := [(4, .one (.p 0 0)), (5, .one (.p 1 0)), (10, .one (.v (.slice (some b0) gs.length c))), (11, .one (.v (.int .i64 (gs.length : Int)))), (12, .one (.v (.int .i64 (i : Int))))], m := [(0, .cells 41 zap), (1, .cells 41 [.v (.int .i64 5), .v (.int .i64 0), .v (.string ⟨#[]⟩), .v (.slice none 0 0), .v (.slice (some ⟨g, 0, none⟩) 2 2)])], k := 2, f := [aG (some b0) c gs Y] }) (zaa [(0, .blk 0), (1, .blk 1)] rfl rfl rfl rfl (leB rfl) (rs rfl rfl) (rm rfl rfl) ⟨⟨aG.up _ _ _ _, fun w h => ⟨h.2.2.1.1, by rw [hY]; exact zpa 5 _ _ 0 _ (I64.small _ (by decide) (by decide)) (I64.small _ (by decide) (by decide)) (Nat.zero_le _) h.1 h.2.2.1.2 h.2.1⟩⟩, trivial⟩) ?_
 refine zaf zac [] _ _ _ ?_
 refine ⟨(i + 1, Y), ⟨hlt, ?_⟩, by show gs.length - (i + 1) < gs.length - i; omega, ?_⟩
 ·rw [hY]
  show (TT.mk 5 0 ⟨#[]⟩ none 0 [] (some ⟨g, 0, none⟩) 2 [(TT.mk xk xn xnm xla xlc xls xaa xac xus), (TT.mk vk vn vnm vla vlc vls vaa vac vus)]).tm = _
  rw [zbs]
  exact hnext
 subst hY
 exact zaa [(0, .blk 0), (1, .blk 1)] rfl rfl rfl rfl (leB rfl) ⟨⟨_, rfl, rfl⟩, ⟨_, rfl, rfl⟩, ⟨_, rfl, rfl⟩, ⟨_, rfl, rfl⟩, ⟨_, rfl, oneI (za9 (by omega) (by omega))⟩, trivial⟩ ⟨⟨_, rfl, rfl⟩, ⟨_, rfl, rfl⟩, trivial⟩ ⟨⟨aG.up _ _ _ _, fun w h => h.1⟩, trivial⟩
end Go.Proofs.YtmkpiekbpakigaaDoor
end
section
set_option linter.unusedVariables false
set_option linter.unusedSimpArgs false
namespace Go.Proofs.YtmkpiekbpakigaaDoor
open Go.RowKit Go.Proofs.Base Go.Proofs.Sym
def zou (x : Nat × Tm) (y : Nat × Tm) : Bool -> Nat × Tm
 | true => x
 | false => y
def zbz (k0 : Int) : Tm -> Nat × Tm
 | .mk k n s ls [a, b] => zou ((zbz k0 b).1 + 1, (zbz k0 b).2) (0, .mk k n s ls [a, b]) (decide (k = k0))
 | t => (0, t)
theorem zru {k0 n : Int} {s : ByteArray} {ls : List Lv} {a b : Tm} : zbz k0 (.mk k0 n s ls [a, b]) = ((zbz k0 b).1 + 1, (zbz k0 b).2) := by
 rw [zbz]
 simp [zou]
theorem zsd {k0 k n : Int} {s : ByteArray} {ls : List Lv} {us : List Tm} (h : ¬ (k = k0 /\ us.length = 2)) : zbz k0 (.mk k n s ls us) = (0, .mk k n s ls us) := by
 match us, h with
 | [], _ => rw [zbz]; intro _ _ _ _ _ _ h; cases h
 | [a], _ => rw [zbz]; intro _ _ _ _ _ _ h; cases h
 | [a, b], h =>
  have hk : ¬ k = k0 := fun e => h ⟨e, rfl⟩
  rw [zbz]
  simp [zou, hk]
 | a :: b :: c :: r, _ => rw [zbz]; intro _ _ _ _ _ _ h; cases h
def sG (t : TT) (xs : List TT) (w : World) : Prop := TTIn w t /\ ∀ x ∈ xs, TTIn w x
theorem sG.up (t : TT) (xs : List TT) : Up (sG t xs) := (TTIn.upS _).and fun w w' h hh x hx => TTIn.up h x (hh x hx)
def zwu (q : (Option Addr × Nat × Nat) × TT) : LRes := { v := .tup [.one (.v (.slice q.1.1 q.1.2.2 q.1.2.1)), .agg (q.2.cells.map SA.v)], m := [], k := 0, F := fun w => TTIn w q.2 }
theorem zd9 {k n : Int} {s : ByteArray} {ls : List Lv} {us : List Tm} {u : Tm} (h : u ∈ us) : za8 u < za8 (.mk k n s ls us) := by
 rw [za8]
 have key : ∀ (us : List Tm), u ∈ us -> za8 u <= zbf us := by
  intro us
  induction us with
  | nil => intro h; cases h
  | cons x r ih =>
   intro h
   rw [zbf]
   rcases List.mem_cons.1 h with rfl | h
   ·omega
   ·have := ih h
    omega
 have := key us h
 omega
set_option maxHeartbeats 8000000 in
theorem zwc (t : TT) (k0 : Int) (hz : za8 t.tm <= 3000) : zav Tryd.prog 117 [ttA t, .one (.v (.int .i64 k0))] [] 0 (fun w => TTIn w t) (fun q : (Option Addr × Nat × Nat) × TT => q.1.2.2 = (zbz k0 t.tm).1 /\ q.2.tm = (zbz k0 t.tm).2) zwu := by
 obtain ⟨R, hR⟩ : ∃ R, zbz k0 t.tm = R := ⟨_, rfl⟩
 rw [hR]
 obtain ⟨k, n, s, la, lc, ls, aa, ac, us⟩ := t
 refine zas zac 32 [.tmp 4, .cell 5 41] Tryd.func117 rfl rfl (by kernel_rfl) rfl _ (leB rfl) (TTIn.upS _) ?_
 refine zaf zac [2] _ _ _ ?_
 refine zai.ent (zgn 6 41 5 rfl) ?_
 refine zaf zac [3, 5] _ _ _ ?_
 refine ⟨⟨TT × List TT, fun q => R = ((zbz k0 q.1.tm).1 + q.2.length, (zbz k0 q.1.tm).2) /\ q.2.length + za8 q.1.tm <= 3000, fun q => { s := [(1, .one (.v (.int .i64 k0))), (2, .one (.p 0 0)), (5, .one (.p 1 0)), (6, .one (.row 2))], m := [(0, .cells 41 (q.1.cells.map SA.v)), (1, .cells 41 zap), (2, .own 41 5 q.2.length (ttsC q.2))], k := 3, f := [sG q.1 q.2] }, fun q => za8 q.1.tm, ⟨(TT.mk k n s la lc ls aa ac us, []), ⟨?_, ?_⟩, zaa [(0, .blk 0), (1, .blk 1), (2, .own 2)] rfl rfl rfl rfl (leB rfl) ⟨⟨_, rfl, rfl⟩, ⟨_, rfl, rfl⟩, ⟨_, rfl, rfl⟩, ⟨_, rfl, rfl⟩, trivial⟩ ⟨⟨_, rfl, rfl⟩, ⟨_, rfl, rfl⟩, ⟨_, _, rfl, rfl, rfl⟩, trivial⟩ ⟨⟨sG.up _ _, fun w h => ⟨h.1, fun x hx => by cases hx⟩⟩, trivial⟩⟩, ?_⟩⟩
 ·show R = ((zbz k0 (TT.mk k n s la lc ls aa ac us).tm).1 + 0, _)
  rw [hR]
  rfl
 ·show 0 + za8 (TT.mk k n s la lc ls aa ac us).tm <= 3000
  omega
 clear hR hz
 rintro ⟨t, xs⟩ ⟨hR, hz⟩
 obtain ⟨k, n, s, la, lc, ls, aa, ac, us⟩ := t
 have hR : R = ((zbz k0 (TT.mk k n s la lc ls aa ac us).tm).1 + xs.length, (zbz k0 (TT.mk k n s la lc ls aa ac us).tm).2) := hR
 have hz : xs.length + za8 (TT.mk k n s la lc ls aa ac us).tm <= 3000 := hz
 have hB := zc2 (TT.mk k n s la lc ls aa ac us).tm (by omega)
 have hstop : ¬ (k = k0 /\ us.length = 2) -> R = (xs.length, (TT.mk k n s la lc ls aa ac us).tm) := fun h => by
  rw [hR, zbs, zsd (by simpa using h)]
  simp
 have hcl := zdf (TT.mk k n s la lc ls aa ac us) hB
 refine zad (fun hk => ?_) (fun hk => ?_)
 rotate_left
 ·have hk : decide (k = k0) = false := hk
  have hno : ¬ (k = k0 /\ us.length = 2) := fun h => of_decide_eq_false hk h.1
  refine zai.ent (st' := { s := [(1, .one (.v (.int .i64 k0))), (2, .one (.p 0 0)), (5, .one (.p 1 0)), (6, .one (.row 2))], m := [(0, .cells 41 ((TT.mk k n s la lc ls aa ac us).cells.map SA.v)), (1, .cells 41 zap), (2, .own 41 5 xs.length (ttsC xs))], k := 3, f := [sG (TT.mk k n s la lc ls aa ac us) xs] }) (zaa [(0, .blk 0), (1, .blk 1), (2, .own 2)] rfl rfl rfl rfl (leB rfl) ⟨⟨_, rfl, rfl⟩, ⟨_, rfl, rfl⟩, ⟨_, rfl, rfl⟩, ⟨_, rfl, rfl⟩, trivial⟩ ⟨⟨_, rfl, rfl⟩, ⟨_, rfl, rfl⟩, ⟨_, _, rfl, rfl, rfl⟩, trivial⟩ ⟨⟨sG.up _ _, fun w h => h.1⟩, trivial⟩) ?_
  refine zai.freeze 2 rfl (fun A cp f1 f2 f3 => ?_)
  refine zaf zac [] _ _ _ ?_
  refine zab [] hcl rfl trivial rfl rfl (fun w h => h.2.1.1) (fun x _ => ?_) (fun x hx => ?_)
  ·obtain ⟨vk, vn, vnm, vla, vlc, vls, vaa, vac, vus⟩ := x
   exact ⟨rfl, rfl⟩
  have hx : x.tm = _ := hx
  obtain ⟨vk, vn, vnm, vla, vlc, vls, vaa, vac, vus⟩ := x
  refine ⟨_, rfl, ((A, cp, xs.length), TT.mk vk vn vnm vla vlc vls vaa vac vus), ⟨?_, ?_⟩, rfl, ?_⟩
  ·rw [hstop hno]
  ·rw [hstop hno]; exact hx
  exact zaa [] rfl rfl rfl rfl (Nat.zero_le _) ⟨⟨_, rfl, rfl⟩, trivial⟩ trivial ⟨⟨TTIn.upS _, fun w h => h.1⟩, trivial⟩
 have hk : decide (k = k0) = true := hk
 have hk := of_decide_eq_true hk
 refine zad (fun hl => ?_) (fun hl => ?_)
 rotate_left
 ·have hl : decide ((us.length : Int) = 2) = false := hl
  have hno : ¬ (k = k0 /\ us.length = 2) := fun h => of_decide_eq_false hl (by omega)
  refine zai.ent (st' := { s := [(1, .one (.v (.int .i64 k0))), (2, .one (.p 0 0)), (5, .one (.p 1 0)), (6, .one (.row 2))], m := [(0, .cells 41 ((TT.mk k n s la lc ls aa ac us).cells.map SA.v)), (1, .cells 41 zap), (2, .own 41 5 xs.length (ttsC xs))], k := 3, f := [sG (TT.mk k n s la lc ls aa ac us) xs] }) (zaa [(0, .blk 0), (1, .blk 1), (2, .own 2)] rfl rfl rfl rfl (leB rfl) ⟨⟨_, rfl, rfl⟩, ⟨_, rfl, rfl⟩, ⟨_, rfl, rfl⟩, ⟨_, rfl, rfl⟩, trivial⟩ ⟨⟨_, rfl, rfl⟩, ⟨_, rfl, rfl⟩, ⟨_, _, rfl, rfl, rfl⟩, trivial⟩ ⟨⟨sG.up _ _, fun w h => h.1⟩, trivial⟩) ?_
  refine zai.freeze 2 rfl (fun A cp f1 f2 f3 => ?_)
  refine zaf zac [] _ _ _ ?_
  refine zab [] hcl rfl trivial rfl rfl (fun w h => h.2.1.1) (fun x _ => ?_) (fun x hx => ?_)
  ·obtain ⟨vk, vn, vnm, vla, vlc, vls, vaa, vac, vus⟩ := x
   exact ⟨rfl, rfl⟩
  have hx : x.tm = _ := hx
  obtain ⟨vk, vn, vnm, vla, vlc, vls, vaa, vac, vus⟩ := x
  refine ⟨_, rfl, ((A, cp, xs.length), TT.mk vk vn vnm vla vlc vls vaa vac vus), ⟨?_, ?_⟩, rfl, ?_⟩
  ·rw [hstop hno]
  ·rw [hstop hno]; exact hx
  exact zaa [] rfl rfl rfl rfl (Nat.zero_le _) ⟨⟨_, rfl, rfl⟩, trivial⟩ trivial ⟨⟨TTIn.upS _, fun w h => h.1⟩, trivial⟩
 have hl : decide ((us.length : Int) = 2) = true := hl
 have hl := of_decide_eq_true hl
 match us, hl, hR, hz, hB with
 | [a, b], _, hR, hz, hB =>
 clear hstop hcl
 rw [zbs] at hR hz hB
 have hR2 : R = ((zbz k0 (.mk k n s ls [a.tm, b.tm])).1 + xs.length, (zbz k0 (.mk k n s ls [a.tm, b.tm])).2) := hR
 clear hR
 have hz : xs.length + za8 (.mk k n s ls [a.tm, b.tm]) <= 3000 := hz
 rw [hk, zru] at hR2
 have hsa : za8 a.tm < za8 (.mk k n s ls [a.tm, b.tm]) := zd9 List.mem_cons_self
 have hsb : za8 b.tm < za8 (.mk k n s ls [a.tm, b.tm]) := zd9 (List.mem_cons_of_mem _ List.mem_cons_self)
 have hca := zdf a (zc2 a.tm (by omega))
 refine zai.told (p := ∃ q, aa = some q) (fun w h => ?_) ?_
 ·obtain ⟨⟨q, hq, _⟩, _⟩ := h.1.1.arg (j := 0) (t := a) rfl
  exact ⟨q, hq⟩
 rintro ⟨b0, rfl⟩
 obtain ⟨ka, na, sa, laa, lca, lsa, aaa, aca, usa⟩ := a
 obtain ⟨kb, nb, sb, lab, lcb, lsb, aab, acb, usb⟩ := b
 refine zaf zac [] _ _ _ ?_
 refine ⟨{ n := 0 }, ⟨rfl, Nat.succ_pos _, fun w h => rfl⟩, ?_⟩
 refine ⟨{ cs := (TT.mk ka na sa laa lca lsa aaa aca usa).cells }, ⟨TT.cells_one (TT.mk ka na sa laa lca lsa aaa aca usa), rfl, fun w h => ?_⟩, ?_⟩
 ·obtain ⟨⟨a, ha, hc⟩, _⟩ := h.1.1.arg (j := 0) (t := (TT.mk ka na sa laa lca lsa aaa aca usa)) rfl
  cases ha
  exact ⟨_, rfl, hc⟩
 refine zab [] hca rfl trivial rfl rfl (fun w h => (h.1.1.arg (j := 0) (t := (TT.mk ka na sa laa lca lsa aaa aca usa)) rfl).2) (fun x _ => ?_) (fun x hx => ?_)
 ·obtain ⟨vk, vn, vnm, vla, vlc, vls, vaa, vac, vus⟩ := x
  exact ⟨rfl, rfl⟩
 clear hx
 obtain ⟨vk, vn, vnm, vla, vlc, vls, vaa, vac, vus⟩ := x
 refine ⟨{}, ⟨trivial, by decide, .inr rfl, ?_, ?_⟩, ?_⟩
 ·show xs.length + 1 <= maxLen
  simp only [maxLen]; omega
 ·show (xs.length + 1) * 80 <= 140737488355328
  omega
 refine ⟨{ n := 1 }, ⟨rfl, Nat.succ_lt_succ (Nat.succ_pos _), fun w h => rfl⟩, ?_⟩
 refine ⟨{ cs := (TT.mk kb nb sb lab lcb lsb aab acb usb).cells }, ⟨TT.cells_one (TT.mk kb nb sb lab lcb lsb aab acb usb), rfl, fun w h => ?_⟩, ?_⟩
 ·obtain ⟨⟨a, ha, hc⟩, _⟩ := h.2.1.1.arg (j := 1) (t := (TT.mk kb nb sb lab lcb lsb aab acb usb)) rfl
  cases ha
  exact ⟨_, rfl, hc⟩
 refine ⟨((TT.mk kb nb sb lab lcb lsb aab acb usb), xs ++ [(TT.mk vk vn vnm vla vlc vls vaa vac vus)]), ⟨?_, ?_⟩, ?_, ?_⟩
 ·rw [hR2]
  simp only [List.length_append, List.length_singleton]
  refine Prod.ext ?_ rfl
  show _ + 1 + xs.length = _ + (xs.length + 1)
  omega
 ·simp only [List.length_append, List.length_singleton]
  omega
 ·show _ < za8 (TT.mk k n s la lc ls (some b0) ac [(TT.mk ka na sa laa lca lsa aaa aca usa), (TT.mk kb nb sb lab lcb lsb aab acb usb)]).tm
  rw [zbs]
  exact hsb
 exact zaa [(0, .blk 0), (1, .blk 1), (2, .own 4)] rfl rfl rfl rfl (leB rfl) ⟨⟨_, rfl, rfl⟩, ⟨_, rfl, rfl⟩, ⟨_, rfl, rfl⟩, ⟨_, rfl, rfl⟩, trivial⟩ ⟨⟨_, rfl, rfl⟩, ⟨_, rfl, rfl⟩, ⟨_, _, rfl, by simp, by simp [ttsC, TT.cells]⟩, trivial⟩ ⟨⟨sG.up _ _, fun w h => ⟨(h.2.1.1.arg (j := 1) (t := (TT.mk kb nb sb lab lcb lsb aab acb usb)) rfl).2, fun x hx => (List.mem_append.1 hx).elim (h.2.1.2 x) (fun hx => by rw [List.mem_singleton.1 hx]; exact h.1)⟩⟩, trivial⟩
end Go.Proofs.YtmkpiekbpakigaaDoor
end
section
set_option linter.unusedVariables false
set_option linter.unusedSimpArgs false
namespace Go.Proofs.YtmkpiekbpakigaaDoor
open Go.RowKit Go.Proofs.Base Go.Proofs.Sym
theorem zn1 (A : Option Addr) (c : Nat) (ns : List ByteArray) (s : ByteArray) (hl : ns.length <= 9223372036854775807) : PCall Tryd.prog 145 [.slice A ns.length c, .string s] (fun w => SsIn w A c ns) (fun r => r = .bool (decide (0 <= sIdx s ns 0))) (fun _ _ => True) := by
 have hix := zjq A c ns s hl
 obtain ⟨q, hq⟩ : ∃ q, sIdx s ns 0 = q := ⟨_, rfl⟩
 rw [hq] at hix ⊢
 refine zar zac 9 [.tmp 4] Tryd.func145 rfl rfl (by kernel_rfl) rfl _ (leB rfl) (SsIn.up _ _ _) (fun _ => Up.true) ?_
 refine zaf zac [] _ _ _ ?_
 refine zae hix (fun _ => rfl) (fun w h => h.1) ?_
 rintro r rfl
 exact ⟨_, rfl, Told.val rfl⟩
def zdt (pre : List ByteArray) : List ByteArray -> Bool
 | [] => true
 | s :: r => (zcd s && !decide (0 <= sIdx s pre 0)) && zdt (pre ++ [s]) r
theorem zhv : ∀ {ns pre : List ByteArray}, zdt pre ns = true -> ∀ {j : Nat} {s : ByteArray}, ns[j]? = some s -> zcd s = true /\ decide (0 <= sIdx s (pre ++ ns.take j) 0) = false
 | x :: r, pre, h, 0, s, hj => by
  simp only [List.getElem?_cons_zero, Option.some.injEq] at hj
  subst hj
  rw [zdt, Bool.and_eq_true, Bool.and_eq_true, Bool.not_eq_true'] at h
  exact ⟨h.1.1, by simpa using h.1.2⟩
 | x :: r, pre, h, j + 1, s, hj => by
  rw [zdt, Bool.and_eq_true] at h
  have := zhv h.2 (j := j) (s := s) (by simpa using hj)
  refine ⟨this.1, ?_⟩
  have h2 := this.2
  rw [List.append_assoc] at h2
  exact h2
theorem SsIn.take {w : World} {A : Option Addr} {c : Nat} {ns : List ByteArray} (h : SsIn w A c ns) (j : Nat) (hj : j <= ns.length) : SsIn w (cutA A c 0 1) c (ns.take j) := by
 have hc : SlAt w (cutA A c 0 1) (ns.map Value.string) := by
  intro i u hi
  obtain ⟨a, ha, h2⟩ := h.cells i u hi
  unfold cutA
  split
  ·exact ⟨a, ha, h2⟩
  ·refine ⟨a.add (0 * 1), by rw [ha]; rfl, ?_⟩
   rw [Addr.add_add, show 0 * 1 + i = i by omega]
   exact h2
 refine ⟨fun i u hi => ?_, fun hA => ?_, ?_, h.max⟩
 ·rw [List.map_take, List.getElem?_take] at hi
  split at hi
  ·exact hc i u hi
  ·cases hi
 ·unfold cutA at hA
  have hn : A = none := by
   split at hA
   ·exact hA
   ·cases A with
    | none => rfl
    | some a => cases hA
  obtain ⟨h1, h2⟩ := h.nil hn
  exact ⟨by rw [List.length_take]; omega, h2⟩
 ·rw [List.length_take]
  have := h.le
  omega
theorem znw (A : Option Addr) (c : Nat) (ns : List ByteArray) (hd : zdt [] ns = true) : PCall Tryd.prog 119 [.slice A ns.length c] (fun w => ML w /\ SsIn w A c ns) (fun r => r = .bool true) (fun _ _ => True) := by
 refine zar zac 23 [.tmp 2] Tryd.func119 rfl rfl (by kernel_rfl) rfl _ (leB rfl) (ML.up.and (SsIn.up _ _ _)) (fun _ => Up.true) ?_
 refine zai.told (p := ns.length <= c /\ c <= maxLen) (fun w h => ⟨h.1.2.le, h.1.2.max⟩) (fun hl => ?_)
 have hlm : maxLen = 9223372036854775807 := rfl
 refine zaf zac [] _ _ _ ?_
 refine ⟨⟨Nat, fun j => j <= ns.length,
  fun j => { s := [(0, .one (.v (.slice A ns.length c))), (2, .one (.v (.bool false))), (5, .one (.v (.slice A ns.length c))), (6, .one (.v (.int .i64 (ns.length : Int)))), (7, .one (.v (.int .i64 (j : Int))))], m := [], k := 0, f := [fun w => ML w /\ SsIn w A c ns] },
  fun j => ns.length - j, ⟨0, Nat.zero_le _, ?_⟩, ?_⟩⟩
 ·exact zaa [] rfl rfl rfl rfl (Nat.le_refl _) ⟨⟨_, rfl, rfl⟩, ⟨_, rfl, rfl⟩, ⟨_, rfl, rfl⟩, ⟨_, rfl, rfl⟩, ⟨_, rfl, rfl⟩, trivial⟩ trivial ⟨⟨ML.up.and (SsIn.up _ _ _), fun w h => h.1⟩, trivial⟩
 intro j hj
 refine zad (fun hlt => ?_) (fun hge => ?_)
 ·have hlt : j < ns.length := by
   have h : decide ((j : Int) < (ns.length : Int)) = true := hlt
   have := of_decide_eq_true h
   omega
  obtain ⟨s, hs⟩ : ∃ s, ns[j]? = some s := ⟨_, List.getElem?_eq_getElem hlt⟩
  obtain ⟨hw1, hc1⟩ := zhv hd hs
  have hw := zoe s
  rw [hw1] at hw
  have hlen : (ns.take j).length = j := by rw [List.length_take]; omega
  have hcn := zn1 (cutA A c 0 1) c (ns.take j) s (by rw [hlen]; omega)
  rw [hlen] at hcn
  rw [List.nil_append] at hc1
  rw [hc1] at hcn
  refine ⟨{ n := j }, ⟨rfl, hlt, fun w h => ?_⟩, ?_⟩
  ·obtain ⟨a, ha, _⟩ := h.1.2.get hs
   rw [ha]; rfl
  refine ⟨{ v := .string s }, fun w h => ?_, ?_⟩
  ·obtain ⟨a, ha, h3⟩ := h.1.2.get hs
   exact ⟨a.add (j * 1), by rw [ha]; rfl, by rw [Nat.mul_one]; exact h3⟩
  refine zae hw (fun _ => rfl) (fun w h => h.1.1) ?_
  rintro r rfl
  refine ⟨{ n := 0, m := j }, ⟨rfl, rfl, Nat.zero_le _, by show j <= c; omega⟩, ?_⟩
  refine zae hcn (fun _ => rfl) (fun w h => h.2.1.2.take j hj) ?_
  rintro r rfl
  refine ⟨j + 1, hlt, by simp only; omega, ?_⟩
  exact zaa [] rfl rfl rfl rfl (Nat.le_refl _) ⟨⟨_, rfl, rfl⟩, ⟨_, rfl, rfl⟩, ⟨_, rfl, rfl⟩, ⟨_, rfl, rfl⟩, ⟨_, rfl, oneI (za9 (by omega) (by omega))⟩, trivial⟩ trivial ⟨⟨ML.up.and (SsIn.up _ _ _), fun w h => h.2.2.1⟩, trivial⟩
 ·exact ⟨_, rfl, Told.val rfl⟩
def za6 (l : ByteArray × TT) : List Value := .string l.1 :: l.2.cells
def locC (ls : List (ByteArray × TT)) : List Value := ls.flatMap za6
theorem zfh (l : ByteArray × TT) : ∀ v ∈ za6 l, v.oneCell' = true := by
 intro v hv
 rcases List.mem_cons.1 hv with rfl | hv
 ·rfl
 ·exact l.2.cells_one v hv
theorem zig : ∀ {ls : List (ByteArray × TT)} {j : Nat} {l : ByteArray × TT}, ls[j]? = some l -> ∀ q u, (za6 l)[q]? = some u -> (locC ls)[j * 6 + q]? = some u
 | a :: r, 0, l, h, q, u, hq => by
  simp only [List.getElem?_cons_zero, Option.some.injEq] at h
  subst h
  have hlt := (List.getElem?_eq_some_iff.1 hq).1
  show (za6 a ++ locC r)[0 * 6 + q]? = _
  rw [Nat.zero_mul, Nat.zero_add, List.getElem?_append_left hlt]
  exact hq
 | a :: r, j + 1, l, h, q, u, hq => by
  simp only [List.getElem?_cons_succ] at h
  have e6 : (za6 a).length = 6 := by simp [za6, a.2.cells_len]
  show (za6 a ++ locC r)[(j + 1) * 6 + q]? = _
  rw [List.getElem?_append_right (by rw [e6]; omega), e6, show (j + 1) * 6 + q - 6 = j * 6 + q by omega]
  exact zig h q u hq
def locT (l : ByteArray × TT) : TT := zba 4 0 l.1
def lcP (A : Option Addr) (ls : List (ByteArray × TT)) (w : World) : Prop := SlAt w A (locC ls)
theorem lcP.up (A : Option Addr) (ls : List (ByteArray × TT)) : Up (lcP A ls) := SlAt.up _ _
set_option maxHeartbeats 4000000 in
theorem zd1 (A : Option Addr) (c : Nat) (ls : List (ByteArray × TT)) (hl : ls.length <= 1000000) : zav Tryd.prog 120 [.one (.v (.slice A ls.length c))] [] 0 (lcP A ls) (fun _ : Unit => True) (fun _ => { v := .one (.row 0), m := [(0, .own 41 5 ls.length (ttsC (ls.map locT)))], k := 1 }) := by
 refine zas zac 20 [.tmp 2] Tryd.func120 rfl rfl (by kernel_rfl) rfl _ (leB rfl) (lcP.up _ _) ?_
 refine zaf zac [2] _ _ _ ?_
 refine zai.ent (zgn 3 41 5 rfl) ?_
 refine zaf zac [] _ _ _ ?_
 refine ⟨⟨Nat, fun j => j <= ls.length,
  fun j => { s := [(2, .one (.v (.slice none 0 0))), (3, .one (.row 0)), (6, .one (.v (.slice A ls.length c))), (7, .one (.v (.int .i64 (ls.length : Int)))), (8, .one (.v (.int .i64 (j : Int))))], m := [(0, .own 41 5 j (ttsC ((ls.take j).map locT)))], k := 1, f := [lcP A ls] },
  fun j => ls.length - j, ⟨0, Nat.zero_le _, ?_⟩, ?_⟩⟩
 ·exact zaa [(0, .own 0)] rfl rfl rfl rfl (leB rfl) ⟨⟨_, rfl, rfl⟩, ⟨_, rfl, rfl⟩, ⟨_, rfl, rfl⟩, ⟨_, rfl, rfl⟩, ⟨_, rfl, rfl⟩, trivial⟩ ⟨⟨_, _, rfl, rfl, rfl⟩, trivial⟩ ⟨⟨lcP.up _ _, fun w h => h.1⟩, trivial⟩
 intro j hj
 refine zad (fun hlt => ?_) (fun hge => ?_)
 ·have hlt : j < ls.length := by
   have h : decide ((j : Int) < (ls.length : Int)) = true := hlt
   have := of_decide_eq_true h
   omega
  obtain ⟨l, hs⟩ : ∃ l, ls[j]? = some l := ⟨_, List.getElem?_eq_getElem hlt⟩
  have hget : ∀ w, lcP A ls w -> ∀ q u, (za6 l)[q]? = some u -> ∃ a, A = some a /\ w.cell? (a.add (j * 6 + q)) = some u := fun w h q u hq => h _ _ (zig hs q u hq)
  have htk : ttsC ((ls.take (j + 1)).map locT) = ttsC ((ls.take j).map locT) ++ (locT l).cells := by
   rw [List.take_add_one, hs, List.map_append, zlw]
   simp [ttsC]
  obtain ⟨nm, uk, un, unm, ula, ulc, uls, uaa, uac, uus⟩ := l
  refine ⟨{ n := j }, ⟨rfl, hlt, fun w h => ?_⟩, ?_⟩
  ·obtain ⟨a, ha, _⟩ := hget w h.1 0 _ rfl
   rw [ha]; rfl
  refine ⟨{ cs := za6 (nm, TT.mk uk un unm ula ulc uls uaa uac uus) }, ⟨zfh (nm, TT.mk uk un unm ula ulc uls uaa uac uus), rfl, fun w h => ?_⟩, ?_⟩
  ·obtain ⟨a, ha, _⟩ := hget w h.1 0 _ rfl
   refine ⟨a.add (j * 6), by rw [ha]; rfl, fun q u hq => ?_⟩
   obtain ⟨a2, ha2, h3⟩ := hget w h.1 q u hq
   rw [ha] at ha2
   cases ha2
   rw [Addr.add_add]
   exact h3
  refine ⟨{}, ⟨trivial, by decide, .inr rfl, ?_, ?_⟩, ?_⟩
  ·show j + 1 <= maxLen
   simp only [maxLen]; omega
  ·show (j + 1) * 80 <= 140737488355328
   omega
  refine ⟨j + 1, hlt, by simp only; omega, ?_⟩
  exact zaa [(0, .own 3)] rfl rfl rfl rfl (leB rfl) ⟨⟨_, rfl, rfl⟩, ⟨_, rfl, rfl⟩, ⟨_, rfl, rfl⟩, ⟨_, rfl, rfl⟩, ⟨_, rfl, oneI (za9 (by omega) (by omega))⟩, trivial⟩ ⟨⟨_, _, rfl, rfl, by rw [htk]; rfl⟩, trivial⟩ ⟨⟨lcP.up _ _, fun w h => h.1⟩, trivial⟩
 ·have hge : j = ls.length := by
   have h : decide ((j : Int) < (ls.length : Int)) = false := hge
   have := of_decide_eq_false h
   omega
  subst hge
  refine ⟨_, rfl, (), trivial, rfl, ?_⟩
  exact zaa [(0, .own 0)] rfl rfl rfl rfl (leB rfl) ⟨⟨_, rfl, rfl⟩, trivial⟩ ⟨⟨_, _, rfl, rfl, by rw [List.take_of_length_le (Nat.le_refl _)]⟩, trivial⟩ ⟨⟨Up.true, fun _ _ => trivial⟩, trivial⟩
end Go.Proofs.YtmkpiekbpakigaaDoor
end
section
set_option linter.unusedVariables false
set_option linter.unusedSimpArgs false
namespace Go.Proofs.YtmkpiekbpakigaaDoor
open Go.RowKit Go.Proofs.Base Go.Proofs.Sym
theorem zeu {P : Program} {f : FuncId} {args : List SV} {st : St} {K : SV -> St -> Prop} {Xc : List PanicEntry -> St -> Prop} (i : Nat) {E z n : Nat} {xs : List Value} (hi : get i st.m = some (.own E z n xs)) {X : Type} {ok : X -> Prop} {ret : X -> LRes}
  (args0 : Option Addr -> Nat -> List SV) (pre : Option Addr -> World -> Prop) (h : ∀ A cp, (A = none -> n = 0 /\ cp = 0) -> n <= cp -> cp <= maxLen -> zav P f (args0 A cp) [] 0 (pre A) ok ret)
  (hl0 : ∀ A cp, ∀ x ∈ args0 A cp, x.lt 0) (ha : ∀ e e' : Env, ∀ A cp, e.rv i = .slice A n cp -> (args0 A cp).map (SV.real e') = args.map (SV.real e)) (hp : ∀ A w, AllF st.f w -> SlAt w A xs -> pre A w)
  (hF : ∀ x, (ret x).F = fun _ => True) (hch : ∀ x, (ret x).ch = none) (hhi : ∀ x, ok x -> hiM 0 (ret x).m = true /\ hiV 0 (ret x).v = true)
  (hK : ∀ x, ok x -> K (lV [] st.k (ret x).v) (zmx [] st (ret x))) : zce P f args st K Xc := by
 refine ⟨fun cx e w hm hlt => ?_⟩
 obtain ⟨A, cp, hv, h1, h2, h3, h4⟩ := hm.row_seen hi (fun g => cx.H g \/ ∃ j, j ≠ i /\ At e st.m j g) (fun g hg => hm.others hg)
 have hat : ∀ {i g}, ¬ At (inE [] st.k e) [] i g := fun ⟨b, hb, _⟩ => by cases hb
 have hHw : ∀ g, (cx.H g \/ ∃ j, j ≠ i /\ At e st.m j g) -> g < w.heap.size := by
  rintro g (hx | ⟨j, _, hx⟩)
  ·exact hm.hid g (.inl hx)
  ·exact hm.lt hx
 have hpre : pre A (hide (fun g => cx.H g \/ ∃ j, j ≠ i /\ At e st.m j g) w) := by
  refine hp A _ ?_ h4
  rw [zhd]
  refine fun F hFm => hm.up F hFm _ _ (zax fun g o hg hn => ⟨hg, fun hx => hn ?_⟩) (hm.facts F hFm)
  rcases hx with hx | ⟨j, _, hx⟩
  ·exact .inl hx
  ·exact .inr ⟨j, hx⟩
 obtain ⟨h5, h6⟩ := (h A cp h1 h2 h3).run ⟨w, fun _ => False, fun g => cx.H g \/ ∃ j, j ≠ i /\ At e st.m j g, hHw, fun _ h => h.elim, inE [] st.k e, 0, 0, []⟩ (inE [] st.k e) w rfl rfl rfl
  ⟨Fr.refl _ _, fun i hi => (by cases hi), Nat.le_refl _, fun i t cs hi => (by cases hi), fun i E z n xs hi => (by cases hi), fun i b hi => (by cases hi), fun i g hg => absurd hg hat, fun i j g hg => absurd hg hat, fun F hF => (by rw [List.mem_singleton.1 hF]; exact (h A cp h1 h2 h3).up), fun F hF => (by
   rw [List.mem_singleton.1 hF]
   refine (h A cp h1 h2 h3).up _ _ (zax fun g o hg hn => ⟨hg, fun hx => hn ?_⟩) hpre
   rcases hx with hx | ⟨i, hx⟩
   ·exact hx
   ·exact absurd hx hat)⟩ (hl0 A cp)
 refine ⟨h5, ?_⟩
 rw [ha e _ A cp hv] at h6
 refine h6.mono ?_
 rintro en w' ⟨e', x, hx, rfl, hvl, hc⟩
 have hG : ∀ g, zoi [] st.k e [] g -> Sym.Own e st.m g := fun g ⟨i, hi⟩ => absurd hi hat
 have hc2 : Mem (zsa cx [] st.k e st.m [] w hm hG) e' (ret x).m (ret x).k [(ret x).F] w' :=
  ⟨⟨hc.fr.os, hc.fr.tape, hc.fr.output, hc.fr.size, fun g hg hn => hc.fr.block g hg id⟩, fun i hi => (by cases hi), Nat.zero_le _, hc.cells, hc.own, hc.sc, fun i g hg => (hc.free i g hg).elim .inl (fun h => h.elim), hc.apart, fun F hFm => (by rw [List.mem_singleton.1 hFm, hF]; exact Up.true), fun F hFm => (by rw [List.mem_singleton.1 hFm, hF]; trivial)⟩
 obtain ⟨g1, g2⟩ := hhi x hx
 obtain ⟨h7, h8⟩ := hm.back (ρ := []) (m0 := []) rfl rfl trivial hG hc2 g1
 refine ⟨outE [] st.k e e', zmx [] st (ret x), h7, Nat.le_add_right _ _, Slt.of_eq h7 (Nat.le_add_right _ _) rfl, rfl, h8, .inl ⟨_, ?_, zaau (ρ := []) rfl hvl, hK x hx⟩⟩
 unfold LRes.en
 rw [hch x]
 rw [zxr (ρ := []) rfl (fun i hi => by cases hi) g2]
end Go.Proofs.YtmkpiekbpakigaaDoor
end
