/- What the claim needs of Rf2, Rf3, Rf4, Rf5, in one text. -/
import Derived.Test.YtmkpiekbpakigaaDoorDomi
import Derived.Test.YtmkpiekbpakigaaDoorDomk
section
set_option linter.unusedVariables false
set_option linter.unusedSimpArgs false
namespace Go.Proofs.Sym
open Go.RowKit Go.Proofs.Base Go.Proofs.Mono
theorem zef {P : Program} {T : Tab} {cx : Cx} {r : Option Nat} {n : Nat} (hT : T.Ok P) {ops : Array Oper} {rest : List Oper} {Q : Exit -> Act -> World -> Prop} {K0 : St -> Prop} : ∀ (l : List Oper) (e : Env) (st : St) (a : Act) (w : World), (∀ o ∈ l, zfe o = false /\ o.guard = none) -> Sat cx e st a w ->
  sops P T cx.n ops K0 (fun _ _ => False) l st -> (∀ e' st' a' w', K0 st' -> Sat cx e' st' a' w' -> wpListIn (fw r) n P ops Q rest a' w') -> wpListIn (fw r) n P ops Q (l ++ rest) a w
 | [], e, st, a, w, _, hS, h, hk => hk _ _ _ _ h hS
 | o :: l, e, st, a, w, hd, hS, h, hk => by
  obtain ⟨hd1, hg⟩ := hd o List.mem_cons_self
  show wpListIn (fw r) n P ops Q (o :: (l ++ rest)) a w
  unfold wpListIn
  unfold sops at h
  rw [hg] at h
  rw [if_pos (zaz hg _)]
  exact zhb (K := fun ex st => match ex with | .panic _ => False | _ => True) hT hS (fun ch a w ⟨e, st, hF, _⟩ => hF.elim) (fun e' st' a' w' h1 h2 => zef hT l e' st' a' w' (fun o ho => hd o (List.mem_cons_of_mem _ ho)) h2 h1 hk) hd1 h
end Go.Proofs.Sym
namespace Go.Proofs.YtmkpiekbpakigaaDoor
open Go.RowKit Go.Proofs.Base Go.Proofs.Mono Go.Proofs.Sym
def za3 {α : Type} (gs : List α) : Nat -> List (Nat × α)
 | 0 => []
 | k + 1 => match gs[k]? with
  | some u => (k, u) :: za3 gs k
  | none => za3 gs k
theorem zgg {α : Type} {gs : List α} {k : Nat} {u : α} (h : gs[k]? = some u) : za3 gs (k + 1) = (k, u) :: za3 gs k := by
 rw [za3, h]
theorem zdc {w w' : World} (h : Fr (fun _ => False) w w') : w.grownBy w' none := ⟨h.os, h.tape, h.output, h.size, fun k hk _ => h.block k hk id⟩
def EB (gb : Nat) (A : Option Addr) (c : Nat) (gs : List TT) (W : World) : Prop := W.cell? ⟨gb, 0, none⟩ = some (.slice A gs.length c) /\ ∀ j u, gs[j]? = some u -> ∃ a, A = some a /\ ∀ l v, (TT.cells u)[l]? = some v -> W.cell? ((a.add (j * 5)).add l) = some v
theorem EB.up (gb : Nat) (A : Option Addr) (c : Nat) (gs : List TT) : Up (EB gb A c gs) := fun w w' h hE => ⟨h.cell hE.1, fun j u hu => let ⟨a, ha, hc⟩ := hE.2 j u hu; ⟨a, ha, fun l v hv => h.cell (hc l v hv)⟩⟩
def EBS (y : Value) (gb : Nat) (A : Option Addr) (c : Nat) (gs : List TT) (k : Nat) : St := { s := [(0, .one (.v y)), (1, .one (.v (.pointer (some ⟨gb, 0, none⟩)))), (3, .one (.v (.int .i64 ((k : Int) - 1))))], m := [], k := 0, f := [EB gb A c gs] }
set_option maxHeartbeats 4000000 in
theorem zyl (n gb : Nat) (A : Option Addr) (c : Nat) (gs : List TT) (hl : gs.length <= 1000000) : zqw Tryd.prog n 144 #[.pointer (some ⟨gb, 0, none⟩)] (fun p : Nat × TT => #[.int .i64 (p.1 : Int), p.2.val]) (za3 gs gs.length) (EB gb A c gs) := by
 intro l J W hJE hJL hY h0
 refine callsIn_of_wp Tryd.func144 rfl trivial ?_ rfl
 simp only [Tryd.ntmps144, List.size_toArray, List.length_cons, List.length_nil, Nat.reduceAdd, Nat.reduceSub, Array.replicate_succ, Array.replicate_zero, List.push_toArray, List.append_toArray, List.nil_append, List.cons_append]
 obtain ⟨y, hy0⟩ : ∃ y, y = Value.func (.yield l) #[] #[] := ⟨_, rfl⟩
 rw [<- hy0]
 have satOf : ∀ {k : Nat} {a : Act} {w : World} {pre : List (Nat × TT)}, J pre w -> a.tmps.size = 19 -> a.defers = [] -> a.tmps[0]? = some y -> a.tmps[1]? = some (.pointer (some ⟨gb, 0, none⟩)) -> a.tmps[3]? = some (.int .i64 ((k : Int) - 1)) -> Sat (cxP w 19) envP (EBS y gb A c gs k) a w := by
  intro k a w pre hJ h1 h2 h3 h4 h5
  refine zeb (EB.up gb A c gs) (hJE _ _ hJ) h1 h2 fun i v hi => ?_
  simp only [Sym.get] at hi
  repeat (split at hi <;> first | (rename_i hb; rw [Nat.beq_eq] at hb; subst hb; cases hi; exact ⟨trivial, by assumption⟩) | skip)
  cases hi
 have back : ∀ {k : Nat} {cx : Cx} {e : Env} {a : Act} {w : World}, cx.n = 19 -> cx.d = [] -> Sat cx e (EBS y gb A c gs k) a w -> a.tmps.size = 19 /\ a.defers = [] /\ a.tmps[0]? = some y /\ a.tmps[1]? = some (.pointer (some ⟨gb, 0, none⟩)) /\ a.tmps[3]? = some (.int .i64 ((k : Int) - 1)) := by
  intro k cx e a w hn hd hS
  exact ⟨hS.size.trans hn, hS.defers.trans hd, (hS.slots 0 _ rfl).2, (hS.slots 1 _ rfl).2, (hS.slots 3 _ rfl).2⟩
 refine wpIn_seq (wpIn_mono (zaj.run (P := Tryd.prog) (N := 19) (st := { s := [(0, .one (.v y)), (1, .one (.v (.pointer (some ⟨gb, 0, none⟩))))], m := [], k := 0, f := [EB gb A c gs] }) (K := fun ex st' => ex = .normal /\ Ent st' (EBS y gb A c gs gs.length)) (zaj.fixed zac rfl ?_) none n (cxP W 19) envP _ W rfl (zeb (EB.up gb A c gs) (hJE _ _ h0) rfl rfl fun i v hi => ?_)) ?_)
 ·refine ⟨{ v := .slice A gs.length c }, fun w h => ⟨_, rfl, h.1.1⟩, ?_⟩
  exact ⟨rfl, zaa [] rfl rfl rfl rfl (Nat.le_refl _) ⟨⟨_, rfl, rfl⟩, ⟨_, rfl, rfl⟩, ⟨_, rfl, oneI (za9 (by omega) (by omega))⟩, trivial⟩ trivial ⟨⟨EB.up _ _ _ _, fun w h => h.1⟩, trivial⟩⟩
 ·simp only [Sym.get] at hi
  repeat (split at hi <;> first | (rename_i hb; rw [Nat.beq_eq] at hb; subst hb; cases hi; exact ⟨trivial, rfl⟩) | skip)
  cases hi
 rintro ex a1 w1 ⟨e1, st1, ⟨rfl, hE1⟩, hS1⟩
 obtain ⟨e1, hS1⟩ := hE1.run _ _ _ _ hS1
 have hJ1 := hJL _ _ _ h0 (zdc hS1.mem.fr)
 refine wpIn_block (zkt (fun k a w => ∃ pre, za3 gs gs.length = pre ++ za3 gs k /\ k <= gs.length /\ J pre w /\ a.tmps.size = 19 /\ a.defers = [] /\ a.tmps[0]? = some y /\ a.tmps[1]? = some (.pointer (some ⟨gb, 0, none⟩)) /\ a.tmps[3]? = some (.int .i64 ((k : Int) - 1))) ⟨gs.length, [], rfl, Nat.le_refl _, hJ1, back rfl rfl hS1⟩ ?_)
 clear hS1 hE1 hJ1
 rintro k a2 w2 ⟨pre, hpre, hk, hJ2, h1, h2, h3, h4, h5⟩
 have hS2 := satOf hJ2 h1 h2 h3 h4 h5
 refine wpIn_seq (wpIn_mono (zaj.run (P := Tryd.prog) (N := 19) (st := EBS y gb A c gs k) (K := fun ex st' => (ex = .normal /\ 0 < k /\ Ent st' (EBS y gb A c gs k)) \/ (ex = .exit 0 /\ k = 0 /\ Ent st' (EBS y gb A c gs k))) (zaj.seq (zaj.fixed zac rfl ?_)) none n (cxP w2 19) envP _ w2 rfl hS2) ?_)
 ·refine zaj.cond_tmp rfl (fun h => zaj.skip (.inl ⟨rfl, ?_, ?_⟩)) (fun h => zaj.exit (.inr ⟨rfl, ?_, ?_⟩))
  ·have := of_decide_eq_true h
   omega
  ·exact zaa [] rfl rfl rfl rfl (Nat.le_refl _) ⟨⟨_, rfl, rfl⟩, ⟨_, rfl, rfl⟩, ⟨_, rfl, rfl⟩, trivial⟩ trivial ⟨⟨EB.up _ _ _ _, fun w h => h.1⟩, trivial⟩
  ·have := of_decide_eq_false h
   omega
  ·exact zaa [] rfl rfl rfl rfl (Nat.le_refl _) ⟨⟨_, rfl, rfl⟩, ⟨_, rfl, rfl⟩, ⟨_, rfl, rfl⟩, trivial⟩ trivial ⟨⟨EB.up _ _ _ _, fun w h => h.1⟩, trivial⟩
 rintro ex a3 w3 ⟨e3, st3, hK3, hS3⟩
 rcases hK3 with ⟨rfl, hpos, hE3⟩ | ⟨rfl, hk0, hE3⟩
 rotate_left
 ·obtain ⟨e3, hS3⟩ := hE3.run _ _ _ _ hS3
  have hJ3 := hJL _ _ _ hJ2 (zdc hS3.mem.fr)
  subst hk0
  rw [show za3 gs 0 = [] from rfl, List.append_nil] at hpre
  rw [<- hpre] at hJ3
  simp only [Exit.then, Exit.inBlock, eq_self_iff_true, if_true]
  refine bodyPost_end (fn := Tryd.f144) (results_none rfl _ _ _) hS3.defers ?_
  exact ⟨⟨_, rfl⟩, hJ3⟩
 obtain ⟨e3, hS3⟩ := hE3.run _ _ _ _ hS3
 have hJ3 := hJL _ _ _ hJ2 (zdc hS3.mem.fr)
 obtain ⟨g1, g2, g3, g4, g5⟩ := back rfl rfl hS3
 obtain ⟨j, rfl⟩ : ∃ j, k = j + 1 := ⟨k - 1, by omega⟩
 obtain ⟨u, hu⟩ : ∃ u, gs[j]? = some u := ⟨_, List.getElem?_eq_getElem (by omega)⟩
 rw [zgg hu] at hpre
 obtain ⟨fn, tmps, assign, body, hy, hR⟩ := hY pre (j, u) (za3 gs j) w3 hpre hJ3
 have hS3 := satOf hJ3 g1 g2 g3 g4 g5
 clear hE3 hS2
 obtain ⟨uk, un, unm, ula, ulc, uls, uaa, uac, uus⟩ := u
 refine wpIn_seq (wpIn_block (wpIn_seq (wpIn_region_list ?_)))
 rw [<- List.take_append_drop 6 (Array.toList _)]
 refine zef (cx := cxP w3 19) (r := none) zac _ _ _ _ _ (fun o ho => ?_) hS3 (K0 := fun st' => Ent st' { s := [(11, .one (.v y)), (12, .one (.v (.int .i64 (j : Int)))), (16, .agg ((TT.cells (TT.mk uk un unm ula ulc uls uaa uac uus)).map SA.v)), (0, .one (.v y)), (1, .one (.v (.pointer (some ⟨gb, 0, none⟩)))), (3, .one (.v (.int .i64 (((j + 1 : Nat) : Int) - 1))))], m := [], k := 0, f := [EB gb A c gs] }) ?_ ?_
 ·simp only [List.take_succ_cons, List.take_zero, List.mem_cons, List.not_mem_nil, or_false] at ho
  rcases ho with rfl | rfl | rfl | rfl | rfl | rfl <;> exact ⟨rfl, rfl⟩
 ·refine ⟨{ v := .slice A gs.length c }, fun w h => ⟨_, rfl, h.1.1⟩, ?_⟩
  refine ⟨{ n := j }, ⟨by show (((j + 1 : Nat) : Int) - 1) = (j : Int); omega, by show j < gs.length; omega, fun w h => ?_⟩, ?_⟩
  ·obtain ⟨a, ha, _⟩ := h.1.2 j _ hu
   rw [ha]; rfl
  refine ⟨{ cs := TT.cells (TT.mk uk un unm ula ulc uls uaa uac uus) }, ⟨TT.cells_one (TT.mk uk un unm ula ulc uls uaa uac uus), rfl, fun w h => ?_⟩, ?_⟩
  ·obtain ⟨a, ha, hc⟩ := h.1.2 j _ hu
   exact ⟨a.add (j * 5), by rw [ha]; rfl, hc⟩
  exact zaa [] rfl rfl rfl rfl (Nat.le_refl _) ⟨⟨_, rfl, rfl⟩, ⟨_, rfl, oneI (by omega)⟩, ⟨_, rfl, rfl⟩, ⟨_, rfl, rfl⟩, ⟨_, rfl, rfl⟩, ⟨_, rfl, rfl⟩, trivial⟩ trivial ⟨⟨EB.up _ _ _ _, fun w h => h.1⟩, trivial⟩
 rintro e4 st4 a4 w4 hE4 hS4
 obtain ⟨e4, hS4⟩ := hE4.run _ _ _ _ hS4
 have hJ4 := hJL _ _ _ hJ3 (zdc hS4.mem.fr)
 clear hE4 hR hy fn tmps assign body
 obtain ⟨fn, tmps, assign, body, hy, hR⟩ := hY pre (j, (TT.mk uk un unm ula ulc uls uaa uac uus)) (za3 gs j) w4 hpre hJ4
 have q1 : a4.tmps.size = 19 := hS4.size
 have q2 : a4.defers = [] := hS4.defers
 have q3 : a4.tmps[0]? = some y := (hS4.slots 0 _ rfl).2
 have q4 : a4.tmps[1]? = some (.pointer (some ⟨gb, 0, none⟩)) := (hS4.slots 1 _ rfl).2
 have q5 : a4.tmps[3]? = some (.int .i64 (((j + 1 : Nat) : Int) - 1)) := (hS4.slots 3 _ rfl).2
 have v11 : a4.eval (.tmp 11) = y := (hS4.ev (x := .tmp 11) rfl).2
 have v12 : a4.eval (.tmp 12) = .int .i64 (j : Int) := (hS4.ev (x := .tmp 12) rfl).2
 have v16 : a4.eval (.tmp 16) = (TT.mk uk un unm ula ulc uls uaa uac uus).val := by
  refine ((hS4.ev (x := .tmp 16) rfl).2).trans ?_
  show Value.agg (reals e4 ((TT.cells (TT.mk uk un unm ula ulc uls uaa uac uus)).map SA.v)).toArray = _
  rw [zbd]
  try rfl
 rw [hy0] at v11
 show wpListIn (fw none) n Tryd.prog _ _ [_, _] a4 w4
 unfold wpListIn
 rw [if_pos (zaz rfl _)]
 refine ⟨fun _ _ => trivial, ?_⟩
 rw [Oper.semAt_eq _ _ _ (zd8 rfl)]
 have hrun : ∀ o : Oper, o.op = .call { callee := .value (.tmp 11), args := #[.tmp 12, .tmp 16], argTypes := #[3, 41] } -> (execOp a4.eval o).run Tryd.prog w4 = .ok (.round l fn tmps assign body) w4 := by
  intro o ho
  simp [execOp, ho, resolve, Deferred.ofValue, invoke, v11, v12, v16, hy]
 rw [hrun _ rfl]
 refine ⟨fun h => (by cases h), hR.mono ?_⟩
 rintro e5 W5 ⟨rfl, hJ5⟩
 clear hrun v11 v12 v16 hy hR hS4 hS3
 have hS5 : Sat (cxP W5 19) envP { s := [(17, .one (.v (.bool true))), (0, .one (.v y)), (1, .one (.v (.pointer (some ⟨gb, 0, none⟩)))), (3, .one (.v (.int .i64 (((j + 1 : Nat) : Int) - 1))))], m := [], k := 0, f := [EB gb A c gs] } (a4.put (some 17) (.bool true)) W5 := by
  refine zeb (EB.up gb A c gs) (hJE _ _ hJ5) (by rw [zc1]; exact q1) (by rw [zbu]; exact q2) fun i v hi => ?_
  simp only [Sym.get] at hi
  split at hi
  ·rename_i hb
   rw [Nat.beq_eq] at hb
   subst hb
   cases hi
   refine ⟨trivial, ?_⟩
   rw [za0, if_pos rfl, if_pos (by rw [q1]; decide)]
   rfl
  ·rename_i hb17
   have hne : (some 17 : Option Nat) ≠ some i := by
    intro h
    cases h
    exact absurd hb17 (by decide)
   repeat (split at hi <;> first | (rename_i hb; rw [Nat.beq_eq] at hb; subst hb; cases hi; refine ⟨trivial, ?_⟩; rw [za0, if_neg hne]; assumption) | skip)
   cases hi
 show wpListIn (fw none) n Tryd.prog _ _ ([_] ++ []) _ W5
 refine zef (cx := cxP W5 19) (r := none) zac _ _ _ _ _ (fun o ho => ?_) hS5 (K0 := fun st' => Ent st' { s := [(18, .one (.v (.bool false))), (0, .one (.v y)), (1, .one (.v (.pointer (some ⟨gb, 0, none⟩)))), (3, .one (.v (.int .i64 (((j + 1 : Nat) : Int) - 1))))], m := [], k := 0, f := [EB gb A c gs] }) ?_ ?_
 ·rw [List.mem_singleton.1 ho]
  exact ⟨rfl, rfl⟩
 ·exact zaa [] rfl rfl rfl rfl (Nat.le_refl _) ⟨⟨_, rfl, rfl⟩, ⟨_, rfl, rfl⟩, ⟨_, rfl, rfl⟩, ⟨_, rfl, rfl⟩, trivial⟩ trivial ⟨⟨EB.up _ _ _ _, fun w h => h.1⟩, trivial⟩
 rintro e6 st6 a6 w6 hE6 hS6
 obtain ⟨e6, hS6⟩ := hE6.run _ _ _ _ hS6
 refine wpIn_mono (zaj.run (P := Tryd.prog) (N := 19) (K := fun ex st' => ex = .normal /\ Ent st' (EBS y gb A c gs (j + 1))) (zaj.cond_tmp rfl (fun h => (by cases h)) (fun h => zaj.skip ⟨rfl, ?_⟩)) none n (cxP W5 19) e6 a6 w6 rfl hS6) ?_
 ·exact zaa [] rfl rfl rfl rfl (Nat.le_refl _) ⟨⟨_, rfl, rfl⟩, ⟨_, rfl, rfl⟩, ⟨_, rfl, rfl⟩, trivial⟩ trivial ⟨⟨EB.up _ _ _ _, fun w h => h.1⟩, trivial⟩
 rintro ex a7 w7 ⟨e7, st7, ⟨rfl, hE7⟩, hS7⟩
 obtain ⟨e7, hS7⟩ := hE7.run _ _ _ _ hS7
 refine wpIn_mono (zaj.run (P := Tryd.prog) (N := 19) (K := fun ex st' => ex = .normal /\ Ent st' (EBS y gb A c gs j)) (zaj.fixed zac rfl ?_) none n (cxP W5 19) e7 a7 w7 rfl hS7) ?_
 ·exact ⟨rfl, zaa [] rfl rfl rfl rfl (Nat.le_refl _) ⟨⟨_, rfl, rfl⟩, ⟨_, rfl, rfl⟩, ⟨_, rfl, oneI (by rw [za9 (by omega) (by omega)]; omega)⟩, trivial⟩ trivial ⟨⟨EB.up _ _ _ _, fun w h => h.1⟩, trivial⟩⟩
 rintro ex a8 w8 ⟨e8, st8, ⟨rfl, hE8⟩, hS8⟩
 obtain ⟨e8, hS8⟩ := hE8.run _ _ _ _ hS8
 exact ⟨j, by omega, pre ++ [(j, (TT.mk uk un unm ula ulc uls uaa uac uus))], by rw [hpre]; simp, by omega, hJL _ _ _ hJ5 (zdc hS8.mem.fr), back rfl rfl hS8⟩
def EL (gb : Nat) (A : Option Addr) (c : Nat) (gs : List (ByteArray × TT)) (W : World) : Prop := W.cell? ⟨gb, 0, none⟩ = some (.slice A gs.length c) /\ ∀ j u, gs[j]? = some u -> ∃ a, A = some a /\ ∀ l v, (za6 u)[l]? = some v -> W.cell? ((a.add (j * 6)).add l) = some v
theorem EL.up (gb : Nat) (A : Option Addr) (c : Nat) (gs : List (ByteArray × TT)) : Up (EL gb A c gs) := fun w w' h hE => ⟨h.cell hE.1, fun j u hu => let ⟨a, ha, hc⟩ := hE.2 j u hu; ⟨a, ha, fun l v hv => h.cell (hc l v hv)⟩⟩
def ELS (y : Value) (gb : Nat) (A : Option Addr) (c : Nat) (gs : List (ByteArray × TT)) (k : Nat) : St := { s := [(0, .one (.v y)), (1, .one (.v (.pointer (some ⟨gb, 0, none⟩)))), (3, .one (.v (.int .i64 ((k : Int) - 1))))], m := [], k := 0, f := [EL gb A c gs] }
set_option maxHeartbeats 4000000 in
theorem zz4 (n gb : Nat) (A : Option Addr) (c : Nat) (gs : List (ByteArray × TT)) (hl : gs.length <= 1000000) : zqw Tryd.prog n 146 #[.pointer (some ⟨gb, 0, none⟩)] (fun p : Nat × (ByteArray × TT) => #[.int .i64 (p.1 : Int), .agg (za6 p.2).toArray]) (za3 gs gs.length) (EL gb A c gs) := by
 intro l J W hJE hJL hY h0
 refine callsIn_of_wp Tryd.func146 rfl trivial ?_ rfl
 simp only [Tryd.ntmps146, List.size_toArray, List.length_cons, List.length_nil, Nat.reduceAdd, Nat.reduceSub, Array.replicate_succ, Array.replicate_zero, List.push_toArray, List.append_toArray, List.nil_append, List.cons_append]
 obtain ⟨y, hy0⟩ : ∃ y, y = Value.func (.yield l) #[] #[] := ⟨_, rfl⟩
 rw [<- hy0]
 have satOf : ∀ {k : Nat} {a : Act} {w : World} {pre : List (Nat × (ByteArray × TT))}, J pre w -> a.tmps.size = 19 -> a.defers = [] -> a.tmps[0]? = some y -> a.tmps[1]? = some (.pointer (some ⟨gb, 0, none⟩)) -> a.tmps[3]? = some (.int .i64 ((k : Int) - 1)) -> Sat (cxP w 19) envP (ELS y gb A c gs k) a w := by
  intro k a w pre hJ h1 h2 h3 h4 h5
  refine zeb (EL.up gb A c gs) (hJE _ _ hJ) h1 h2 fun i v hi => ?_
  simp only [Sym.get] at hi
  repeat (split at hi <;> first | (rename_i hb; rw [Nat.beq_eq] at hb; subst hb; cases hi; exact ⟨trivial, by assumption⟩) | skip)
  cases hi
 have back : ∀ {k : Nat} {cx : Cx} {e : Env} {a : Act} {w : World}, cx.n = 19 -> cx.d = [] -> Sat cx e (ELS y gb A c gs k) a w -> a.tmps.size = 19 /\ a.defers = [] /\ a.tmps[0]? = some y /\ a.tmps[1]? = some (.pointer (some ⟨gb, 0, none⟩)) /\ a.tmps[3]? = some (.int .i64 ((k : Int) - 1)) := by
  intro k cx e a w hn hd hS
  exact ⟨hS.size.trans hn, hS.defers.trans hd, (hS.slots 0 _ rfl).2, (hS.slots 1 _ rfl).2, (hS.slots 3 _ rfl).2⟩
 refine wpIn_seq (wpIn_mono (zaj.run (P := Tryd.prog) (N := 19) (st := { s := [(0, .one (.v y)), (1, .one (.v (.pointer (some ⟨gb, 0, none⟩))))], m := [], k := 0, f := [EL gb A c gs] }) (K := fun ex st' => ex = .normal /\ Ent st' (ELS y gb A c gs gs.length)) (zaj.fixed zac rfl ?_) none n (cxP W 19) envP _ W rfl (zeb (EL.up gb A c gs) (hJE _ _ h0) rfl rfl fun i v hi => ?_)) ?_)
 ·refine ⟨{ v := .slice A gs.length c }, fun w h => ⟨_, rfl, h.1.1⟩, ?_⟩
  exact ⟨rfl, zaa [] rfl rfl rfl rfl (Nat.le_refl _) ⟨⟨_, rfl, rfl⟩, ⟨_, rfl, rfl⟩, ⟨_, rfl, oneI (za9 (by omega) (by omega))⟩, trivial⟩ trivial ⟨⟨EL.up _ _ _ _, fun w h => h.1⟩, trivial⟩⟩
 ·simp only [Sym.get] at hi
  repeat (split at hi <;> first | (rename_i hb; rw [Nat.beq_eq] at hb; subst hb; cases hi; exact ⟨trivial, rfl⟩) | skip)
  cases hi
 rintro ex a1 w1 ⟨e1, st1, ⟨rfl, hE1⟩, hS1⟩
 obtain ⟨e1, hS1⟩ := hE1.run _ _ _ _ hS1
 have hJ1 := hJL _ _ _ h0 (zdc hS1.mem.fr)
 refine wpIn_block (zkt (fun k a w => ∃ pre, za3 gs gs.length = pre ++ za3 gs k /\ k <= gs.length /\ J pre w /\ a.tmps.size = 19 /\ a.defers = [] /\ a.tmps[0]? = some y /\ a.tmps[1]? = some (.pointer (some ⟨gb, 0, none⟩)) /\ a.tmps[3]? = some (.int .i64 ((k : Int) - 1))) ⟨gs.length, [], rfl, Nat.le_refl _, hJ1, back rfl rfl hS1⟩ ?_)
 clear hS1 hE1 hJ1
 rintro k a2 w2 ⟨pre, hpre, hk, hJ2, h1, h2, h3, h4, h5⟩
 have hS2 := satOf hJ2 h1 h2 h3 h4 h5
 refine wpIn_seq (wpIn_mono (zaj.run (P := Tryd.prog) (N := 19) (st := ELS y gb A c gs k) (K := fun ex st' => (ex = .normal /\ 0 < k /\ Ent st' (ELS y gb A c gs k)) \/ (ex = .exit 0 /\ k = 0 /\ Ent st' (ELS y gb A c gs k))) (zaj.seq (zaj.fixed zac rfl ?_)) none n (cxP w2 19) envP _ w2 rfl hS2) ?_)
 ·refine zaj.cond_tmp rfl (fun h => zaj.skip (.inl ⟨rfl, ?_, ?_⟩)) (fun h => zaj.exit (.inr ⟨rfl, ?_, ?_⟩))
  ·have := of_decide_eq_true h
   omega
  ·exact zaa [] rfl rfl rfl rfl (Nat.le_refl _) ⟨⟨_, rfl, rfl⟩, ⟨_, rfl, rfl⟩, ⟨_, rfl, rfl⟩, trivial⟩ trivial ⟨⟨EL.up _ _ _ _, fun w h => h.1⟩, trivial⟩
  ·have := of_decide_eq_false h
   omega
  ·exact zaa [] rfl rfl rfl rfl (Nat.le_refl _) ⟨⟨_, rfl, rfl⟩, ⟨_, rfl, rfl⟩, ⟨_, rfl, rfl⟩, trivial⟩ trivial ⟨⟨EL.up _ _ _ _, fun w h => h.1⟩, trivial⟩
 rintro ex a3 w3 ⟨e3, st3, hK3, hS3⟩
 rcases hK3 with ⟨rfl, hpos, hE3⟩ | ⟨rfl, hk0, hE3⟩
 rotate_left
 ·obtain ⟨e3, hS3⟩ := hE3.run _ _ _ _ hS3
  have hJ3 := hJL _ _ _ hJ2 (zdc hS3.mem.fr)
  subst hk0
  rw [show za3 gs 0 = [] from rfl, List.append_nil] at hpre
  rw [<- hpre] at hJ3
  simp only [Exit.then, Exit.inBlock, eq_self_iff_true, if_true]
  refine bodyPost_end (fn := Tryd.f146) (results_none rfl _ _ _) hS3.defers ?_
  exact ⟨⟨_, rfl⟩, hJ3⟩
 obtain ⟨e3, hS3⟩ := hE3.run _ _ _ _ hS3
 have hJ3 := hJL _ _ _ hJ2 (zdc hS3.mem.fr)
 obtain ⟨g1, g2, g3, g4, g5⟩ := back rfl rfl hS3
 obtain ⟨j, rfl⟩ : ∃ j, k = j + 1 := ⟨k - 1, by omega⟩
 obtain ⟨u, hu⟩ : ∃ u, gs[j]? = some u := ⟨_, List.getElem?_eq_getElem (by omega)⟩
 rw [zgg hu] at hpre
 obtain ⟨fn, tmps, assign, body, hy, hR⟩ := hY pre (j, u) (za3 gs j) w3 hpre hJ3
 have hS3 := satOf hJ3 g1 g2 g3 g4 g5
 clear hE3 hS2
 obtain ⟨nm, uk, un, unm, ula, ulc, uls, uaa, uac, uus⟩ := u
 refine wpIn_seq (wpIn_block (wpIn_seq (wpIn_region_list ?_)))
 rw [<- List.take_append_drop 6 (Array.toList _)]
 refine zef (cx := cxP w3 19) (r := none) zac _ _ _ _ _ (fun o ho => ?_) hS3 (K0 := fun st' => Ent st' { s := [(11, .one (.v y)), (12, .one (.v (.int .i64 (j : Int)))), (16, .agg ((za6 (nm, TT.mk uk un unm ula ulc uls uaa uac uus)).map SA.v)), (0, .one (.v y)), (1, .one (.v (.pointer (some ⟨gb, 0, none⟩)))), (3, .one (.v (.int .i64 (((j + 1 : Nat) : Int) - 1))))], m := [], k := 0, f := [EL gb A c gs] }) ?_ ?_
 ·simp only [List.take_succ_cons, List.take_zero, List.mem_cons, List.not_mem_nil, or_false] at ho
  rcases ho with rfl | rfl | rfl | rfl | rfl | rfl <;> exact ⟨rfl, rfl⟩
 ·refine ⟨{ v := .slice A gs.length c }, fun w h => ⟨_, rfl, h.1.1⟩, ?_⟩
  refine ⟨{ n := j }, ⟨by show (((j + 1 : Nat) : Int) - 1) = (j : Int); omega, by show j < gs.length; omega, fun w h => ?_⟩, ?_⟩
  ·obtain ⟨a, ha, _⟩ := h.1.2 j _ hu
   rw [ha]; rfl
  refine ⟨{ cs := za6 (nm, TT.mk uk un unm ula ulc uls uaa uac uus) }, ⟨zfh (nm, TT.mk uk un unm ula ulc uls uaa uac uus), rfl, fun w h => ?_⟩, ?_⟩
  ·obtain ⟨a, ha, hc⟩ := h.1.2 j _ hu
   exact ⟨a.add (j * 6), by rw [ha]; rfl, hc⟩
  exact zaa [] rfl rfl rfl rfl (Nat.le_refl _) ⟨⟨_, rfl, rfl⟩, ⟨_, rfl, oneI (by omega)⟩, ⟨_, rfl, rfl⟩, ⟨_, rfl, rfl⟩, ⟨_, rfl, rfl⟩, ⟨_, rfl, rfl⟩, trivial⟩ trivial ⟨⟨EL.up _ _ _ _, fun w h => h.1⟩, trivial⟩
 rintro e4 st4 a4 w4 hE4 hS4
 obtain ⟨e4, hS4⟩ := hE4.run _ _ _ _ hS4
 have hJ4 := hJL _ _ _ hJ3 (zdc hS4.mem.fr)
 clear hE4 hR hy fn tmps assign body
 obtain ⟨fn, tmps, assign, body, hy, hR⟩ := hY pre (j, (nm, TT.mk uk un unm ula ulc uls uaa uac uus)) (za3 gs j) w4 hpre hJ4
 have q1 : a4.tmps.size = 19 := hS4.size
 have q2 : a4.defers = [] := hS4.defers
 have q3 : a4.tmps[0]? = some y := (hS4.slots 0 _ rfl).2
 have q4 : a4.tmps[1]? = some (.pointer (some ⟨gb, 0, none⟩)) := (hS4.slots 1 _ rfl).2
 have q5 : a4.tmps[3]? = some (.int .i64 (((j + 1 : Nat) : Int) - 1)) := (hS4.slots 3 _ rfl).2
 have v11 : a4.eval (.tmp 11) = y := (hS4.ev (x := .tmp 11) rfl).2
 have v12 : a4.eval (.tmp 12) = .int .i64 (j : Int) := (hS4.ev (x := .tmp 12) rfl).2
 have v16 : a4.eval (.tmp 16) = (.agg (za6 (nm, TT.mk uk un unm ula ulc uls uaa uac uus)).toArray) := by
  refine ((hS4.ev (x := .tmp 16) rfl).2).trans ?_
  show Value.agg (reals e4 ((za6 (nm, TT.mk uk un unm ula ulc uls uaa uac uus)).map SA.v)).toArray = _
  rw [zbd]
  try rfl
 rw [hy0] at v11
 show wpListIn (fw none) n Tryd.prog _ _ [_, _] a4 w4
 unfold wpListIn
 rw [if_pos (zaz rfl _)]
 refine ⟨fun _ _ => trivial, ?_⟩
 rw [Oper.semAt_eq _ _ _ (zd8 rfl)]
 have hrun : ∀ o : Oper, o.op = .call { callee := .value (.tmp 11), args := #[.tmp 12, .tmp 16], argTypes := #[3, 114] } -> (execOp a4.eval o).run Tryd.prog w4 = .ok (.round l fn tmps assign body) w4 := by
  intro o ho
  simp [execOp, ho, resolve, Deferred.ofValue, invoke, v11, v12, v16, hy]
 rw [hrun _ rfl]
 refine ⟨fun h => (by cases h), hR.mono ?_⟩
 rintro e5 W5 ⟨rfl, hJ5⟩
 clear hrun v11 v12 v16 hy hR hS4 hS3
 have hS5 : Sat (cxP W5 19) envP { s := [(17, .one (.v (.bool true))), (0, .one (.v y)), (1, .one (.v (.pointer (some ⟨gb, 0, none⟩)))), (3, .one (.v (.int .i64 (((j + 1 : Nat) : Int) - 1))))], m := [], k := 0, f := [EL gb A c gs] } (a4.put (some 17) (.bool true)) W5 := by
  refine zeb (EL.up gb A c gs) (hJE _ _ hJ5) (by rw [zc1]; exact q1) (by rw [zbu]; exact q2) fun i v hi => ?_
  simp only [Sym.get] at hi
  split at hi
  ·rename_i hb
   rw [Nat.beq_eq] at hb
   subst hb
   cases hi
   refine ⟨trivial, ?_⟩
   rw [za0, if_pos rfl, if_pos (by rw [q1]; decide)]
   rfl
  ·rename_i hb17
   have hne : (some 17 : Option Nat) ≠ some i := by
    intro h
    cases h
    exact absurd hb17 (by decide)
   repeat (split at hi <;> first | (rename_i hb; rw [Nat.beq_eq] at hb; subst hb; cases hi; refine ⟨trivial, ?_⟩; rw [za0, if_neg hne]; assumption) | skip)
   cases hi
 show wpListIn (fw none) n Tryd.prog _ _ ([_] ++ []) _ W5
 refine zef (cx := cxP W5 19) (r := none) zac _ _ _ _ _ (fun o ho => ?_) hS5 (K0 := fun st' => Ent st' { s := [(18, .one (.v (.bool false))), (0, .one (.v y)), (1, .one (.v (.pointer (some ⟨gb, 0, none⟩)))), (3, .one (.v (.int .i64 (((j + 1 : Nat) : Int) - 1))))], m := [], k := 0, f := [EL gb A c gs] }) ?_ ?_
 ·rw [List.mem_singleton.1 ho]
  exact ⟨rfl, rfl⟩
 ·exact zaa [] rfl rfl rfl rfl (Nat.le_refl _) ⟨⟨_, rfl, rfl⟩, ⟨_, rfl, rfl⟩, ⟨_, rfl, rfl⟩, ⟨_, rfl, rfl⟩, trivial⟩ trivial ⟨⟨EL.up _ _ _ _, fun w h => h.1⟩, trivial⟩
 rintro e6 st6 a6 w6 hE6 hS6
 obtain ⟨e6, hS6⟩ := hE6.run _ _ _ _ hS6
 refine wpIn_mono (zaj.run (P := Tryd.prog) (N := 19) (K := fun ex st' => ex = .normal /\ Ent st' (ELS y gb A c gs (j + 1))) (zaj.cond_tmp rfl (fun h => (by cases h)) (fun h => zaj.skip ⟨rfl, ?_⟩)) none n (cxP W5 19) e6 a6 w6 rfl hS6) ?_
 ·exact zaa [] rfl rfl rfl rfl (Nat.le_refl _) ⟨⟨_, rfl, rfl⟩, ⟨_, rfl, rfl⟩, ⟨_, rfl, rfl⟩, trivial⟩ trivial ⟨⟨EL.up _ _ _ _, fun w h => h.1⟩, trivial⟩
 rintro ex a7 w7 ⟨e7, st7, ⟨rfl, hE7⟩, hS7⟩
 obtain ⟨e7, hS7⟩ := hE7.run _ _ _ _ hS7
 refine wpIn_mono (zaj.run (P := Tryd.prog) (N := 19) (K := fun ex st' => ex = .normal /\ Ent st' (ELS y gb A c gs j)) (zaj.fixed zac rfl ?_) none n (cxP W5 19) e7 a7 w7 rfl hS7) ?_
 ·exact ⟨rfl, zaa [] rfl rfl rfl rfl (Nat.le_refl _) ⟨⟨_, rfl, rfl⟩, ⟨_, rfl, rfl⟩, ⟨_, rfl, oneI (by rw [za9 (by omega) (by omega)]; omega)⟩, trivial⟩ trivial ⟨⟨EL.up _ _ _ _, fun w h => h.1⟩, trivial⟩⟩
 rintro ex a8 w8 ⟨e8, st8, ⟨rfl, hE8⟩, hS8⟩
 obtain ⟨e8, hS8⟩ := hE8.run _ _ _ _ hS8
 exact ⟨j, by omega, pre ++ [(j, (nm, TT.mk uk un unm ula ulc uls uaa uac uus))], by rw [hpre]; simp, by omega, hJL _ _ _ hJ5 (zdc hS8.mem.fr), back rfl rfl hS8⟩
theorem zj4 (A : Option Addr) (n c : Nat) : zav Tryd.prog 116 [.one (.v (.slice A n c))] [] 0 (fun _ => True) (fun _ : Unit => True) (fun _ => { v := .one (.fn 144 [] [.p 0]), m := [(0, .cells 39 [.v (.slice A n c)])], k := 1 }) := by
 refine zas zac 4 [.tmp 2] Tryd.func116 rfl rfl (by kernel_rfl) rfl _ (leB rfl) Up.true ?_
 refine zaf zac [] _ _ _ ?_
 exact ⟨_, rfl, (), trivial, rfl, zaa [(0, .blk 0)] rfl rfl rfl rfl (leB rfl) (rs rfl rfl) (rm rfl rfl) ⟨⟨Up.true, fun _ _ => trivial⟩, trivial⟩⟩
theorem zjv (A : Option Addr) (n c : Nat) : zav Tryd.prog 121 [.one (.v (.slice A n c))] [] 0 (fun _ => True) (fun _ : Unit => True) (fun _ => { v := .one (.fn 146 [] [.p 0]), m := [(0, .cells 110 [.v (.slice A n c)])], k := 1 }) := by
 refine zas zac 4 [.tmp 2] Tryd.func121 rfl rfl (by kernel_rfl) rfl _ (leB rfl) Up.true ?_
 refine zaf zac [] _ _ _ ?_
 exact ⟨_, rfl, (), trivial, rfl, zaa [(0, .blk 0)] rfl rfl rfl rfl (leB rfl) (rs rfl rfl) (rm rfl rfl) ⟨⟨Up.true, fun _ _ => trivial⟩, trivial⟩⟩
end Go.Proofs.YtmkpiekbpakigaaDoor
end
section
set_option linter.unusedVariables false
set_option linter.unusedSimpArgs false
namespace Go.Proofs.Sym
open Go.RowKit Go.Proofs.Base Go.Proofs.Mono
def UpC (F : World -> Prop) : Prop := ∀ w w' : World, (∀ a v, w.cell? a = some v -> w'.cell? a = some v) -> F w -> F w'
theorem UpC.up {F : World -> Prop} (h : UpC F) : Up F := fun w w' hs hF => h w w' (fun a v hc => hs.cell hc) hF
theorem UpC.and {F G : World -> Prop} (hF : UpC F) (hG : UpC G) : UpC fun w => F w /\ G w := fun w w' h x => ⟨hF w w' h x.1, hG w w' h x.2⟩
theorem UpC.slat (A : Option Addr) (vs : List Value) : UpC fun w => SlAt w A vs := by
 intro w w' h hs j u hj
 obtain ⟨a, ha, hc⟩ := hs j u hj
 exact ⟨a, ha, h _ _ hc⟩
theorem zq5 {w : World} {a : Addr} {v : Value} (h : w.cell? a = some v) : ∃ o, w.heap[a.block]? = some o /\ o.isCells = true := by
 unfold World.cell? at h
 cases hg : w.heap[a.block]? with
 | none => rw [hg] at h; simp at h
 | some o =>
  rw [hg] at h
  cases o with
  | cells c t fz => exact ⟨_, rfl, rfl⟩
  | _ => simp at h
theorem zdo {H : Nat -> Prop} {w : World} {a : Addr} {v : Value} : (hide H w).cell? a = some v ↔ ¬ H a.block /\ w.cell? a = some v := by
 unfold World.cell?
 rw [zcx]
 by_cases hH : H a.block
 ·simp only [hH, if_true, not_true_eq_false, false_and, iff_false]
  cases hg : w.heap[a.block]? with
  | none => simp
  | some o => simp [dum]
 ·simp only [hH, if_false, Option.map_id', not_false_eq_true, true_and]
theorem zgp {w w' : World} {row : Option Nat} (hg : w.grownBy w' row) (hr : ∀ r, row = some r -> ∃ o : Obj, w.heap[r]? = some o /\ o.isCells = false) {a : Addr} {v : Value} (h : w.cell? a = some v) : w'.cell? a = some v := by
 refine hg.cell h fun e => ?_
 obtain ⟨o, ho, hc⟩ := hr _ e.symm
 obtain ⟨o', ho', hc'⟩ := zq5 h
 rw [ho] at ho'
 cases ho'
 rw [hc] at hc'
 cases hc'
theorem zpo {w w' : World} {row : Option Nat} (hg : w.grownBy w' row) (hr : ∀ r, row = some r -> ∃ o : Obj, w.heap[r]? = some o /\ o.isCells = false) {g : Nat} {t : TypeId} {cs : Array Value} (h : Blk w g t cs) : Blk w' g t cs := by
 refine (hg.block g h.lt fun e => ?_).trans h
 obtain ⟨o, ho, hc⟩ := hr _ e.symm
 rw [show w.heap[g]? = _ from h] at ho
 cases ho
 cases hc
def zg7 (m : List (Nat × LB)) : Prop := ∀ i b, get i m = some b -> ∃ t cs, b = .cells t (List.map SA.v cs)
theorem zii {e e' : Env} {m m' : List (Nat × LB)} (hp : zg7 m) (hk : ∀ i, (get i m).isSome = (get i m').isSome) (hp' : zg7 m') (hb : ∀ i b, get i m = some b -> e'.blk i = e.blk i) {i g : Nat} (h : At e m i g) : At e' m' i g := by
 obtain ⟨b, h1, h2⟩ := h
 obtain ⟨t, cs, rfl⟩ := hp i b h1
 have h3 := hk i
 rw [h1] at h3
 cases hq : get i m' with
 | none => rw [hq] at h3; cases h3
 | some b' =>
  obtain ⟨t', cs', rfl⟩ := hp' i b' hq
  refine ⟨_, hq, ?_⟩
  simp only [LB.block, Option.some.injEq] at h2 ⊢
  rw [hb i _ h1]
  exact h2
theorem Mem.turn {cx : Cx} {e : Env} {m : List (Nat × LB)} {k : Nat} {F : World -> Prop} {w w' : World} {row : Option Nat} (hm : Mem cx e m k [F] w) (hp : zg7 m) (hC : UpC F) (hg : w.grownBy w' row) (hr : ∀ r, row = some r -> ∃ o : Obj, w.heap[r]? = some o /\ o.isCells = false) (hfr : Fr cx.G cx.w0 w') : Mem cx e m k [F] w' := by
 refine ⟨hfr, hm.ids, hm.low, fun i t cs hi => zpo hg hr (hm.cells i t cs hi), fun i E z n xs hi => ?_, hm.sc, hm.free, hm.apart, hm.up, fun G hG => ?_⟩
 ·obtain ⟨t, cs, h⟩ := hp i _ hi
  cases h
 ·rw [List.mem_singleton.1 hG]
  refine hC _ _ (fun a v h => ?_) (hm.facts F List.mem_cons_self)
  obtain ⟨h1, h2⟩ := zdo.1 h
  exact zdo.2 ⟨h1, zgp hg hr h2⟩
def Cx.here (cx : Cx) (e : Env) (m : List (Nat × LB)) (k : Nat) (w : World) (hH : ∀ g, cx.H g -> g < w.heap.size) (hG : ∀ g, Own e m g -> ¬ cx.H g) (d : List Deferred) : Cx :=
 { w0 := w, G := Own e m, H := cx.H, hH := hH, hG := hG, e0 := e, n0 := k, n := cx.n, d := d }
section
variable {cx : Cx} {e : Env} {m : List (Nat × LB)} {k : Nat} {f : List (World -> Prop)} {w : World}
theorem Mem.hH' (h : Mem cx e m k f w) : ∀ g, cx.H g -> g < w.heap.size := fun g hg => Nat.lt_of_lt_of_le (cx.hH g hg) h.fr.size
theorem Mem.hG' (h : Mem cx e m k f w) : ∀ g, Own e m g -> ¬ cx.H g := fun g ⟨i, hi⟩ hg => h.others hi (.inl hg)
theorem Mem.here (h : Mem cx e m k f w) (d : List Deferred) : Mem (cx.here e m k w h.hH' h.hG' d) e m k f w :=
 ⟨Fr.refl _ _, fun i hi => rfl, Nat.le_refl _, h.cells, h.own, h.sc, fun i g hg => .inr ⟨i, hg⟩, h.apart, h.up, h.facts⟩
end
theorem Mem.close {cxI cx : Cx} {e e4 : Env} {m m4 mx : List (Nat × LB)} {k k4 : Nat} {F F' : World -> Prop} {W W' : World} {hH : ∀ g, cx.H g -> g < W.heap.size} {hG : ∀ g, Own e m g -> ¬ cx.H g} {d : List Deferred} (h : Mem (cx.here e m k W hH hG d) e4 m4 k4 [F] W') (hI : Mem cxI e m k [F'] W) (hIH : cxI.H = cx.H) (hIe : ∀ i, i < cxI.n0 -> e.blk i = cxI.e0.blk i)
  (hp : zg7 mx) (hpm : zg7 m) (hsub : ∀ i b, get i mx = some b -> get i m4 = some b) (hkey : ∀ i, (get i mx).isSome = (get i m).isSome) : Mem cxI e mx k [F] W' := by
 have hlt : ∀ {i b}, get i mx = some b -> i < k := fun {i b} hi => by
  have := hkey i
  rw [hi] at this
  cases hq : get i m with
  | none => rw [hq] at this; cases this
  | some b' => exact (hI.sc i b' hq).1
 have hblk : ∀ {i b}, get i mx = some b -> e4.blk i = e.blk i := fun {i b} hi => h.ids i (hlt hi)
 have hat : ∀ {i g}, At e mx i g -> At e4 m4 i g := fun {i g} ⟨b, h1, h2⟩ => by
  obtain ⟨t, cs, rfl⟩ := hp i b h1
  refine ⟨_, hsub _ _ h1, ?_⟩
  simp only [LB.block, Option.some.injEq] at h2 ⊢
  rw [hblk h1]
  exact h2
 have hatm : ∀ {i g}, At e mx i g -> At e m i g := fun {i g} hg => zii hp hkey hpm (fun _ _ _ => rfl) hg
 refine ⟨hI.fr.trans h.fr fun g hg hx => ?_, hIe, hI.low, fun i t cs hi => ?_, fun i E z n xs hi => ?_, fun i b hi => ⟨hlt hi, ?_⟩, fun i g hg => hI.free _ g (hatm hg), fun i j g hi hj => h.apart _ _ _ (hat hi) (hat hj), h.up, fun G hGf => ?_⟩
 ·obtain ⟨i, hi⟩ := hx
  exact (hI.free i g hi).resolve_left (by omega)
 ·have h1 := h.cells i t cs (hsub _ _ hi)
  obtain ⟨t', cs', he⟩ := hp i _ hi
  cases he
  rw [hblk hi, zbd] at h1
  rw [zbd]
  exact h1
 ·obtain ⟨t', cs', he⟩ := hp i _ hi
  cases he
 ·have h1 := (h.sc i b (hsub _ _ hi)).2
  obtain ⟨t', cs', rfl⟩ := hp i b hi
  intro c hc
  have h2 := h1 c hc
  obtain ⟨v, _, rfl⟩ := List.mem_map.1 hc
  exact h2
 ·rw [List.mem_singleton.1 hGf]
  refine h.up F List.mem_cons_self _ _ (zax fun g o hg hn => ⟨hg, fun hx => hn ?_⟩) (h.facts F List.mem_cons_self)
  rcases hx with hx | ⟨i, hx⟩
  ·rw [hIH] at hx
   exact .inl hx
  ·exact .inr ⟨i, hat hx⟩
end Go.Proofs.Sym
namespace Go.Proofs.YtmkpiekbpakigaaDoor
open Go.RowKit Go.Proofs.Base Go.Proofs.Mono Go.Proofs.Sym
def zlz : SA -> Bool
 | .row _ => false
 | .q _ _ => false
 | _ => true
def ztn : SV -> Bool
 | .one x => zlz x
 | .agg xs => xs.all zlz
 | .tup _ => false
theorem zua {e e' : Env} {k : Nat} (h : ∀ i, i < k -> e'.blk i = e.blk i) : ∀ {c : Cap}, c.lt k -> c.real e' = c.real e
 | .p i, hc => by simp only [Cap.real, h i hc]
 | .v _, _ => rfl
theorem zxh {e e' : Env} {k : Nat} (h : ∀ i, i < k -> e'.blk i = e.blk i) : ∀ {x : SA}, x.lt0 k -> zlz x = true -> x.real e' = x.real e
 | .v _, _, _ => rfl
 | .p i o, hx, _ => by simp only [SA.real, h i hx]
 | .sl i o n c, hx, _ => by simp only [SA.real, h i hx]
 | .row i, _, hb => by cases hb
 | .q i o, _, hb => by cases hb
 | .fn f fs cs, hx, _ => by
  simp only [SA.real]
  rw [List.map_congr_left fun c hc => zua h (hx.1 c hc), List.map_congr_left fun c hc => zua h (hx.2 c hc)]
theorem zaat {e e' : Env} {k : Nat} (h : ∀ i, i < k -> e'.blk i = e.blk i) {v : SV} (hv : v.lt k) (hb : ztn v = true) : v.real e' = v.real e := by
 cases v with
 | one x => exact zxh h hv hb
 | agg xs =>
  simp only [SV.real, reals]
  rw [List.map_congr_left fun x hx => zxh h (SA.lt0_of (hv x hx)) (List.all_eq_true.1 hb x hx)]
 | tup xs => cases hb
mutual
theorem TTIn.upC {w w' : World} (h : ∀ a v, w.cell? a = some v -> w'.cell? a = some v) : ∀ (t : TT), TTIn w t -> TTIn w' t
 | .mk kind n name la lc ls aa ac args, ht => by
  unfold TTIn at *
  obtain ⟨hn, hr⟩ := ht
  refine ⟨⟨hn.hkind, hn.hn, hn.hname, ⟨hn.hls.1, fun hp => ?_⟩, hn.hla, hn.hlc, hn.hlm, hn.haa, hn.hac, hn.ham⟩, TTs.upC h aa 0 args hr⟩
  obtain ⟨b, off, e, hc⟩ := hn.hls.2 hp
  refine ⟨b, off, e, fun j l hl => ?_⟩
  obtain ⟨h0, h1, h2, h3, h4⟩ := hc j l hl
  exact ⟨h _ _ h0, h _ _ h1, h _ _ h2, h _ _ h3, h _ _ h4⟩
theorem TTs.upC {w w' : World} (h : ∀ a v, w.cell? a = some v -> w'.cell? a = some v) (aa : Option Addr) : ∀ (j : Nat) (ts : List TT), TTs w aa j ts -> TTs w' aa j ts
 | _, [], _ => by unfold TTs; trivial
 | j, t :: r, ht => by
  unfold TTs at *
  obtain ⟨⟨a, ha, hc⟩, h1, h2⟩ := ht
  exact ⟨⟨a, ha, fun l u hl => h _ _ (hc l u hl)⟩, TTIn.upC h t h1, TTs.upC h aa (j + 1) r h2⟩
end
theorem TTIn.upCS (t : TT) : UpC fun w => TTIn w t := fun _ _ h ht => TTIn.upC h t ht
theorem TsIn.upC (A : Option Addr) (c : Nat) (us : List TT) : UpC fun w => TsIn w A c us := fun w w' h hb => ⟨TTs.upC h A 0 us hb.tts, hb.nil, hb.le, hb.max⟩
theorem aG.upC (A : Option Addr) (c : Nat) (gs : List TT) (x : TT) : UpC (aG A c gs x) := (TsIn.upC _ _ _).and (TTIn.upCS _)
theorem zmo {cx : Cx} {e : Env} {w : World} {args : List SV} {pre : World -> Prop} {N ntm : Nat} (hm : Mem cx e [] 0 [pre] w) (hlt : ∀ x ∈ args, x.lt 0) (hn0 : cx.n0 = 0) (hN : ntm = N) (hl : args.length <= N) :
  Sat { cx with n := N, d := [] } e { s := zfu 0 args, m := [], k := 0, f := [pre], b := 0 } { tmps := (args.map (SV.real e)).toArray ++ Array.replicate (ntm - (args.map (SV.real e)).toArray.size) undef, defers := [] } w := by
 subst hN
 have hm0 : Mem { cx with n := ntm, d := [] } e [] 0 [pre] w := ⟨hm.fr, hm.ids, hm.low, hm.cells, hm.own, hm.sc, hm.free, hm.apart, hm.up, hm.facts⟩
 refine ⟨hn0, by simp; omega, rfl, fun i v hi => ?_, hm0⟩
 obtain ⟨_, h2⟩ := zhc hi
 simp only [Nat.sub_zero] at h2
 have hil := (List.getElem?_eq_some_iff.1 h2).1
 refine ⟨hlt v (List.mem_of_getElem? h2), ?_⟩
 rw [Array.getElem?_append_left (by simpa using hil)]
 simp [h2]
theorem zm0 {X : Type} {cx cx2 : Cx} {e5 : Env} {stF : St} {a3 : Act} {w3 : World} {fn : Func} {rs : List ResultVar} {ok : X -> Prop} {ret : X -> LRes} {F : World -> Prop} {D : Nat} (x : X) (hS : Sat cx2 e5 stF a3 w3) (hmF : zg7 stF.m) (hfF : stF.f = [F]) (hC : UpC F) (hH : cx2.H = cx.H) (hd : cx2.d = [{ target := .collected D, args := #[] }]) (hrs : fn.results.toList = rs)
  {v : SV} (hres : zgl tab stF rs = some v) (hx : ok x) (hrm : (ret x).m = []) (hrk : (ret x).k = 0) (hrc : (ret x).ch = none) (hrF : (ret x).F = F) (hrl : (ret x).v.lt 0) (hv : ∀ e e', v.real e = (ret x).v.real e') (hn0 : cx.n0 = 0) (hD : cx.w0.heap.size <= D) (hK : w3.heap[D]? = some (.deferred (some []))) (hfr : Fr cx.G cx.w0 w3) :
  bodyPostM Fence.wide 9 Tryd.prog fn (fun en w' => ∃ e' x, ok x /\ en = (ret x).en e' /\ (ret x).v.lt (ret x).k /\ Mem cx e' (ret x).m (ret x).k [(ret x).F] w') .ret a3 w3 := by
 show LeavesInM _ _ _ _ a3.tmps _ a3.defers .returning w3
 rw [hS.defers, hd]
 refine ⟨by simp, .inl ⟨D, _, rfl, run_takeDeferred hK, ?_⟩⟩
 have hg := grownBy_putObj' w3 D (.deferred none)
 have hr : ∀ r, some D = some r -> ∃ o : Obj, w3.heap[r]? = some o /\ o.isCells = false := fun r e => by cases e; exact ⟨_, hK, rfl⟩
 have hm := hS.mem
 rw [hfF] at hm
 have hHlt : ∀ g, cx2.H g -> g < (w3.putObj D (.deferred none)).heap.size := fun g h => Nat.lt_of_lt_of_le (hm.hH' g h) hg.size
 have hS4 : Sat { w0 := w3.putObj D (.deferred none), G := Sym.Own e5 stF.m, H := cx2.H, hH := hHlt, hG := hm.hG', e0 := cx2.e0, n0 := cx2.n0, n := cx2.n, d := cx2.d } e5 stF a3 (w3.putObj D (.deferred none)) := by
  refine ⟨hS.base, hS.size, hS.defers, hS.slots, Fr.refl _ _, hm.ids, hm.low, fun i t cs hi => zpo hg hr (hm.cells i t cs hi), fun i E z n xs hi => ?_, hm.sc, fun i g hg => .inr ⟨i, hg⟩, hm.apart, by rw [hfF]; exact hm.up, fun G hG => ?_⟩
  ·obtain ⟨t, cs, h⟩ := hmF i _ hi
   cases h
  ·rw [hfF] at hG
   rw [List.mem_singleton.1 hG]
   refine hC _ _ (fun a v h => ?_) (hm.facts F List.mem_cons_self)
   obtain ⟨h1, h2⟩ := zdo.1 h
   exact zdo.2 ⟨h1, zgp hg hr h2⟩
 refine ⟨_, zg9 zac hS4 (by rw [hrs]; exact hres), e5, x, hx, ?_, by rw [hrk]; exact hrl, ?_⟩
 ·unfold LRes.en
  rw [hrc, hv e5 e5]
 ·rw [hrm, hrk, hrF]
  have hat : ∀ {i g}, ¬ At e5 [] i g := fun ⟨b, hb, _⟩ => by cases hb
  refine ⟨⟨hg.os.trans hfr.os, hg.tape.trans hfr.tape, hg.output.trans hfr.output, Nat.le_trans hfr.size hg.size, fun q hq hnq => (hg.block q (Nat.lt_of_lt_of_le hq hfr.size) fun he => ?_).trans (hfr.block q hq hnq)⟩, fun i hi => (by omega), by omega, fun i t cs hi => (by cases hi), fun i E z n xs hi => (by cases hi), fun i b hi => (by cases hi), fun i g hg => absurd hg hat, fun i j g hg => absurd hg hat, fun G hG => (by rw [List.mem_singleton.1 hG]; exact hC.up), fun G hG => ?_⟩
  ·cases he
   omega
  ·rw [List.mem_singleton.1 hG]
   refine hC _ _ (fun a v h => ?_) (hm.facts F List.mem_cons_self)
   obtain ⟨h1, h2⟩ := zdo.1 h
   refine zdo.2 ⟨fun hx => h1 ?_, zgp hg hr h2⟩
   rcases hx with hx | ⟨i, hx⟩
   ·exact .inl (by rw [hH]; exact hx)
   ·exact absurd hx hat
def zx5 (st : St) (Φ : St -> Prop) : Prop := ∃ i t cs vs, Sym.get i st.m = some (.cells t cs) /\ (∀ e, reals e cs = vs) /\ ∀ g, Φ (sbSt (blkA i g) i (fun w => SlAt w (some ⟨g, 0, none⟩) vs) st)
theorem zrw {st : St} {Φ : St -> Prop} (h : zx5 st Φ) {cx : Cx} {e : Env} {a : Act} {w : World} (hS : Sat cx e st a w) : ∃ st2, Sat cx e st2 a w /\ Φ st2 := by
 obtain ⟨i, t, cs, vs, hi, hp, hΦ⟩ := h
 refine ⟨_, ?_, hΦ (e.blk i)⟩
 have hm := hS.mem
 have hσ : zg4 (blkA i (e.blk i)) e := zet rfl
 refine ⟨hS.base, hS.size, hS.defers, fun t u hu => ?_, hm.spell hi hσ (SlAt.up _ _) ?_⟩
 ·obtain ⟨u0, h1, rfl⟩ := zir hu
  obtain ⟨h2, h3⟩ := hS.slots _ _ h1
  exact ⟨hσ.vlt h2, by rw [h3, hσ.v]⟩
 ·intro j u hj
  have hb := zb5 (H := fun g => cx.H g \/ ∃ j, j ≠ i /\ At e st.m j g) (hm.cells i t cs hi) (hm.others ⟨_, hi, rfl⟩)
  refine ⟨_, rfl, ?_⟩
  rw [zbl, cell_of_row _ (e.blk i) (0 + j) _ _ _ hb, hp e]
  simpa using hj
theorem zjl {N n : Nat} {X α : Type} {cx : Cx} {e : Env} {a : Act} {w : World} {s0 : List (Nat × SV)} {k0 b0 : Nat} {g p0 p1 v9 gf : Nat} {tA : TypeId} {lb : Array Value} {assign body : Code} {Q : Exit -> Act -> World -> Prop} (mX : X -> List (Nat × LB)) (FX : X -> World -> Prop) (okX : List α -> X -> Prop) (x0 : X)
  (encA encB : α -> SV) (cA : α -> List Value) (xs : List α) (E : World -> Prop)
  (hS : Sat cx e { s := s0, m := mX x0, k := k0, f := [FX x0], b := b0 } a w) (hn : cx.n = N) (h0 : okX [] x0) (hC : ∀ x, UpC (FX x)) (hpl : ∀ x, zg7 (mX x)) (hke : ∀ x i, (Sym.get i (mX x)).isSome = (Sym.get i (mX x0)).isSome)
  (hsl : ∀ i v, Sym.get i s0 = some v -> ztn v = true) (hAl : ∀ u, (encA u).lt k0 /\ (encB u).lt k0) (hp0 : p0 < N) (hp1 : p1 < N) (hp01 : p0 ≠ p1)
  (hg : a.eval (.tmp g) = .func (.func gf) #[] lb) (eg : ∀ args w, (callFunc gf args).run Tryd.prog w = .ok (.enter gf args) w) (h1 : 1 <= n)
  (hit : zqw Tryd.prog (n - 1) gf lb (fun u => #[(encA u).real e, (encB u).real e]) xs E)
  (hEX : ∀ x cx1 W, Mem cx1 e (mX x) k0 [FX x] W -> E W)
  (hass : ∀ x u, zaj Tryd.prog N assign (fun ex st' => ex = .normal /\ Ent st' { s := (v9, .one (.p k0 0)) :: s0, m := (k0, .cells tA ((cA u).map SA.v)) :: mX x, k := k0 + 1, f := [FX x], b := k0 }) { s := (p1, encB u) :: (p0, encA u) :: s0, m := mX x, k := k0, f := [FX x], b := k0 })
  (hbody : ∀ pre u r x g9, xs = pre ++ u :: r -> okX pre x -> zaj Tryd.prog N body (fun ex st' => ex = .normal /\ zx5 st' fun st2 => ∃ x', okX (pre ++ [u]) x' /\ Ent st2 { s := [], m := mX x', k := k0, f := [FX x'], b := k0 }) { s := (v9, .one (.v (.pointer (some ⟨g9, 0, none⟩)))) :: s0, m := mX x, k := k0, f := [fun w => SlAt w (some ⟨g9, 0, none⟩) (cA u), FX x], b := k0 })
  (hQ : ∀ (D : Nat) (W : World) (x : X), okX xs x -> w.heap.size <= D -> Mem (cx.here e (mX x0) k0 w hS.mem.hH' hS.mem.hG' []) e (mX x) k0 [FX x] W -> W.heap[D]? = some (.deferred (some [])) -> Q .normal { a with defers := { target := .collected D, args := #[] } :: a.defers } W) :
  (Code.rangeFunc (.tmp g) #[p0, p1] assign body).wpIn Fence.wide n Tryd.prog Q a w := by
 subst hn
 have hmem := hS.mem
 have hkx : ∀ x x' i, (Sym.get i (mX x)).isSome = (Sym.get i (mX x')).isSome := fun x x' i => (hke x i).trans (hke x' i).symm
 have hOwn : ∀ {x x' g}, Sym.Own e (mX x) g -> Sym.Own e (mX x') g := fun {x x' g} ⟨i, hi⟩ => ⟨i, zii (hpl x) (hkx x x') (hpl x') (fun _ _ _ => rfl) hi⟩
 obtain ⟨cxI, hcxI⟩ : ∃ c, cx.here e (mX x0) k0 w hS.mem.hH' hS.mem.hG' [] = c := ⟨_, rfl⟩
 have hIH : cxI.H = cx.H := by rw [<- hcxI]; rfl
 have hIG : cxI.G = Sym.Own e (mX x0) := by rw [<- hcxI]; rfl
 have hIw : cxI.w0 = w := by rw [<- hcxI]; rfl
 have hIe : ∀ i, i < cxI.n0 -> e.blk i = cxI.e0.blk i := by rw [<- hcxI]; exact fun i hi => rfl
 have hIn : cxI.n = cx.n := by rw [<- hcxI]; rfl
 rw [hcxI] at hQ
 have hM0 : Mem cxI e (mX x0) k0 [FX x0] w := by rw [<- hcxI]; exact hmem.here []
 obtain ⟨I, hI⟩ : ∃ I : List α -> World -> Prop, I = fun pre W => ∃ x, okX pre x /\ Mem cxI e (mX x) k0 [FX x] W := ⟨_, rfl⟩
 have frI : ∀ {x W}, Mem cxI e (mX x) k0 [FX x] W -> w.heap.size <= W.heap.size := fun {x W} h => by
  have := h.fr.size
  rw [hIw] at this
  exact this
 have ownLt : ∀ {x g}, Sym.Own e (mX x) g -> g < w.heap.size := fun {x g} hg => by
  obtain ⟨i, hi⟩ := hOwn (x' := x0) hg
  exact hmem.lt hi
 have hIown : OwnFrom w.heap.size I := by
  rw [hI]
  rintro pre W W' row ⟨x, hx, hm⟩ hgr hrow
  refine ⟨x, hx, Mem.turn hm (hpl x) (hC x) hgr (fun r hr => (hrow r hr).2) ?_⟩
  refine ⟨hgr.os.trans hm.fr.os, hgr.tape.trans hm.fr.tape, hgr.output.trans hm.fr.output, Nat.le_trans hm.fr.size hgr.size, fun q hq hnq => (hgr.block q (Nat.lt_of_lt_of_le hq hm.fr.size) fun he => ?_).trans (hm.fr.block q hq hnq)⟩
  rw [hIw] at hq
  have := (hrow q he.symm).1
  omega
 have hlt0 : ∀ i v, Sym.get i s0 = some v -> v.lt k0 := fun i v hi => (hS.slots i v hi).1
 have hkept : ∀ {x W W' d e4 m4 k4 F4} (hH) (hG), Mem cxI e (mX x) k0 [FX x] W -> Mem (cxI.here e (mX x) k0 W hH hG d) e4 m4 k4 F4 W' -> KeepsFrom w.heap.size W W' := by
  intro x W W' d e4 m4 k4 F4 hH hG hm h4
  refine ⟨h4.fr.size, fun q o hq hqo hoc => (h4.fr.block q (Array.getElem?_eq_some_iff.1 hqo).1 fun hx => ?_).trans hqo⟩
  obtain ⟨i, b, hb, hbg⟩ : Sym.Own e (mX x) q := hx
  obtain ⟨t, cs, rfl⟩ := hpl x i b hb
  have hc := hm.cells i t _ hb
  cases hbg
  rw [show W.heap[e.blk i]? = _ from hc] at hqo
  cases hqo
  cases hoc
 refine zla hg eg h1 hit (fun _ => rfl) I hIown (fun pre W h => by rw [hI] at h; obtain ⟨x, _, hm⟩ := h; exact hEX x _ _ hm) (by rw [hI]; exact ⟨x0, h0, hM0⟩)
  (fun u a' W => ∃ g9, w.heap.size <= g9 /\ SlAt W (some ⟨g9, 0, none⟩) (cA u) /\ a'.tmps.size = cx.n /\ a'.defers = [] /\ ∀ i v, Sym.get i ((v9, SV.one (.v (.pointer (some ⟨g9, 0, none⟩)))) :: s0) = some v -> a'.tmps[i]? = some (v.real e)) ?_ ?_ ?_ ?_
 ·rintro u a' _ W W' row ⟨g9, h2, h3, h4⟩ hgr hrow
  exact ⟨g9, h2, UpC.slat _ _ _ _ (fun a v hc => zgp hgr (fun r hr => (hrow r hr).2) hc) h3, h4⟩
 ·-- the assignments
  intro l pre u r W K hxs hiW hsz hK
  rw [hI] at hiW
  obtain ⟨x, hx, hm⟩ := hiW
  have htm : (#[p0, p1].zip #[(encA u).real e, (encB u).real e]).foldl (fun t (p, v) => t.setIfInBounds p v) a.tmps = (a.tmps.setIfInBounds p0 ((encA u).real e)).setIfInBounds p1 ((encB u).real e) := by simp
  rw [htm]
  have hSa : Sat (cxI.here e (mX x) k0 W hm.hH' hm.hG' []) e { s := (p1, encB u) :: (p0, encA u) :: s0, m := mX x, k := k0, f := [FX x], b := k0 } { tmps := (a.tmps.setIfInBounds p0 ((encA u).real e)).setIfInBounds p1 ((encB u).real e), defers := [] } W := by
   have htz : a.tmps.size = cx.n := hS.size
   refine ⟨rfl, ?_, rfl, fun i v hi => ?_, hm.here []⟩
   ·simp [htz, Cx.here, hIn]
   ·show v.lt k0 /\ _
    rcases zah hi with ⟨rfl, rfl⟩ | ⟨hne1, hi⟩
    ·refine ⟨(hAl u).2, ?_⟩
     rw [Array.getElem?_setIfInBounds_self, if_pos (by simp [htz]; exact hp1)]
    ·rw [Array.getElem?_setIfInBounds_ne (Ne.symm hne1)]
     rcases zah hi with ⟨rfl, rfl⟩ | ⟨hne0, hi⟩
     ·refine ⟨(hAl u).1, ?_⟩
      rw [Array.getElem?_setIfInBounds_self, if_pos (by rw [htz]; exact hp0)]
     ·rw [Array.getElem?_setIfInBounds_ne (Ne.symm hne0)]
      exact hS.slots i v hi
  refine wpIn_mono ((hass x u).run (some l) _ _ e _ W (by simp [Cx.here, hIn]) hSa) ?_
  rintro ex a' W' ⟨e3, st3, ⟨rfl, hE⟩, hS3⟩
  obtain ⟨e4, hS4⟩ := hE.run _ _ _ _ hS3
  have h4 := hS4.mem
  have hids : ∀ i, i < k0 -> e4.blk i = e.blk i := h4.ids
  have hg9 : At e4 ((k0, LB.cells tA ((cA u).map SA.v)) :: mX x) k0 (e4.blk k0) := ⟨_, za4 _ _ _, rfl⟩
  have hne : ∀ i b, Sym.get i (mX x) = some b -> i ≠ k0 := fun i b hi => Nat.ne_of_lt (hm.sc i b hi).1
  have hsub : ∀ i b, Sym.get i (mX x) = some b -> Sym.get i ((k0, LB.cells tA ((cA u).map SA.v)) :: mX x) = some b := fun i b hi => by rw [zbw (hne i b hi)]; exact hi
  have hclose : Mem cxI e (mX x) k0 [FX x] W' := Mem.close h4 hm rfl hIe (hpl x) (hpl x) hsub (fun i => rfl)
  have hnew : W.heap.size <= e4.blk k0 := by
   rcases h4.free k0 _ hg9 with h5 | ⟨i, b, hb, hbg⟩
   ·exact h5
   ·exfalso
    have hik := (hm.sc i b hb).1
    obtain ⟨t, cs, rfl⟩ := hpl x i b hb
    have hat : At e4 ((k0, LB.cells tA ((cA u).map SA.v)) :: mX x) i (e4.blk k0) := ⟨_, hsub i _ hb, by simp only [LB.block, Option.some.injEq] at hbg ⊢; rw [hids i hik]; exact hbg⟩
    have := h4.apart _ _ _ hg9 hat
    omega
  refine hK a' W' (hkept hm.hH' hm.hG' hm h4) (by rw [hI]; exact ⟨x, hx, hclose⟩) ⟨e4.blk k0, by omega, fun j v hj => ⟨_, rfl, ?_⟩, hS4.size.trans (by simp [Cx.here, hIn]), hS4.defers, fun i v hi => ?_⟩
  ·have hb := h4.cells k0 tA _ (za4 _ _ _)
   rw [zbd] at hb
   rw [zbl, hb.cell]
   simpa using hj
  ·rcases zah hi with ⟨rfl, rfl⟩ | ⟨hne9, hi⟩
   ·exact (hS4.slots i _ (za4 _ _ _)).2
   ·have h5 := (hS4.slots i v (by rw [zbw hne9]; exact hi)).2
    rw [h5, zaat hids (hlt0 i v hi) (hsl i v hi)]
 ·-- the body
  rintro l pre u r a' W hxs hsz hiW ⟨g9, hg9, hsl9, hz, hd, hsl'⟩
  rw [hI] at hiW
  obtain ⟨x, hx, hm⟩ := hiW
  have hnot : ¬ (cxI.H g9 \/ Sym.Own e (mX x) g9) := by
   rintro (h | h)
   ·rw [hIH] at h
    have := hmem.hH' g9 h
    omega
   ·have := ownLt h
    omega
  have hSb : Sat (cxI.here e (mX x) k0 W hm.hH' hm.hG' []) e { s := (v9, .one (.v (.pointer (some ⟨g9, 0, none⟩)))) :: s0, m := mX x, k := k0, f := [fun w => SlAt w (some ⟨g9, 0, none⟩) (cA u), FX x], b := k0 } a' W := by
   refine ⟨rfl, hz.trans (by simp [Cx.here, hIn]), hd, fun i v hi => ⟨?_, hsl' i v hi⟩, (hm.here []).add (SlAt.up _ _) ?_⟩
   ·rcases zah hi with ⟨rfl, rfl⟩ | ⟨_, hi⟩
    ·trivial
    ·exact hlt0 i v hi
   ·intro j v hj
    obtain ⟨q, hq, hc⟩ := hsl9 j v hj
    cases hq
    refine ⟨_, rfl, zdo.2 ⟨?_, hc⟩⟩
    rw [zbl]
    exact hnot
  refine wpIn_mono ((hbody pre u r x g9 hxs hx).run (some l) _ _ e _ W (by simp [Cx.here, hIn]) hSb) ?_
  rintro ex a3 W' ⟨e3, st3, ⟨rfl, hFE⟩, hS3⟩
  obtain ⟨st2, hS3, x', hx', hE⟩ := zrw hFE hS3
  obtain ⟨e4, hS4⟩ := hE.run _ _ _ _ hS3
  have h4 := hS4.mem
  have hclose : Mem cxI e (mX x') k0 [FX x'] W' := Mem.close h4 hm rfl hIe (hpl x') (hpl x) (fun i b hi => hi) (fun i => hkx x' x i)
  exact ⟨rfl, hkept hm.hH' hm.hG' hm h4, by rw [hI]; exact ⟨x', hx', hclose⟩⟩
 ·intro D W hD hiW hK
  rw [hI] at hiW
  obtain ⟨x, hx, hm⟩ := hiW
  exact hQ D W x hx hD hm hK
end Go.Proofs.YtmkpiekbpakigaaDoor
end
section
set_option linter.unusedVariables false
set_option linter.unusedSimpArgs false
namespace Go.Proofs.YtmkpiekbpakigaaDoor
open Go.RowKit Go.Proofs.Base Go.Proofs.Mono Go.Proofs.Sym
def ztq (k0 : Int) (body : Tm) (ts : List Tm) : Tm := ts.foldr (fun t r => .mk k0 0 ⟨#[]⟩ [] [t, r]) body
def zu7 (k0 : Int) (body : Tm) (ps : List (Nat × TT)) : Tm := ps.foldl (fun r p => .mk k0 0 ⟨#[]⟩ [] [p.2.tm, r]) body
theorem zka (k0 : Int) (gs : List TT) : ∀ (n : Nat) (body : Tm), n <= gs.length -> zu7 k0 body (za3 gs n) = ztq k0 body ((gs.take n).map TT.tm)
 | 0, body, _ => rfl
 | n + 1, body, h => by
  obtain ⟨u, hu⟩ : ∃ u, gs[n]? = some u := ⟨_, List.getElem?_eq_getElem (by omega)⟩
  rw [zgg hu, List.take_add_one, hu]
  show zu7 k0 (.mk k0 0 ⟨#[]⟩ [] [u.tm, body]) (za3 gs n) = _
  rw [zka k0 gs n _ (by omega)]
  simp [ztq, List.foldr_append]
theorem zdx {α : Type} {gs : List α} : ∀ {n : Nat} {p : Nat × α}, p ∈ za3 gs n -> gs[p.1]? = some p.2
 | n + 1, p, h => by
  rw [za3] at h
  split at h
  ·rename_i u hu
   rcases List.mem_cons.1 h with rfl | h
   ·exact hu
   ·exact zdx h
  ·exact zdx h
def bdMX (k0 : Int) (A : Option Addr) (c : Nat) (gs : List TT) (x : TT) : List (Nat × LB) := [(3, .cells 41 (x.cells.map SA.v)), (0, .cells 3 [.v (.int .i64 k0)]), (2, .cells 41 zap), (4, .cells 39 [.v (.slice A gs.length c)])]
theorem zf4 (k0 : Int) (A : Option Addr) (c : Nat) (gs : List TT) (x : TT) : zg7 (bdMX k0 A c gs x) := by
 intro i b hi
 unfold bdMX at hi
 rcases zah hi with ⟨_, rfl⟩ | ⟨_, hi⟩
 ·exact ⟨_, _, rfl⟩
 rcases zah hi with ⟨_, rfl⟩ | ⟨_, hi⟩
 ·exact ⟨3, [.int .i64 k0], rfl⟩
 rcases zah hi with ⟨_, rfl⟩ | ⟨_, hi⟩
 ·exact ⟨41, [.int .i64 0, .int .i64 0, .string ⟨#[]⟩, .slice none 0 0, .slice none 0 0], rfl⟩
 rcases zah hi with ⟨_, rfl⟩ | ⟨_, hi⟩
 ·exact ⟨39, [.slice A gs.length c], rfl⟩
 cases hi
theorem zkn {w : World} {g t : Nat} {v : Value} (h : Blk w g t #[v]) : w.cell? ⟨g, 0, none⟩ = some v := by
 rw [h.cell]
 rfl
def bdS0 : List (Nat × SV) := [(3, .one (.p 0 0)), (6, .one (.p 2 0)), (7, .one (.p 3 0)), (13, .one (.fn 144 [] [.p 4]))]
set_option maxHeartbeats 8000000 in
theorem zr8 (k0 : Int) (t : TT) (A : Option Addr) (c : Nat) (gs : List TT) (hk0 : I64 k0) (hB : tmB t.tm) (hBs : ∀ u ∈ gs, tmB u.tm) (hgl : gs.length <= 1000000) : zav Tryd.prog 75 [.one (.v (.int .i64 k0)), ttA t, .one (.v (.slice A gs.length c))] [] 0 (aG A c gs t) (fun x : TT => x.tm = ztq k0 t.tm (gs.map TT.tm)) zk9 := by
 have hc0 := zdf t hB
 obtain ⟨tt, htt⟩ : ∃ x, t.tm = x := ⟨_, rfl⟩
 rw [htt] at hc0 ⊢
 clear htt hB
 refine ⟨aG.up _ _ _ _, fun cx e w hw0 hn0 he0 hm hlt => ⟨⟨_, Tryd.func75, by kernel_rfl, rfl⟩, (callsIn_wide (n := 9)).1 (callsIn_of_wp_marks Tryd.func75 rfl trivial ?_ rfl)⟩⟩
 obtain ⟨k, n, s, la, lc, ls, aa, ac, us⟩ := t
 have hS0 := zmo (ntm := Tryd.f75.ntmps) (N := 23) hm hlt hn0 rfl (leB rfl)
 -- up to the range
 refine wpIn_seq (wpIn_mono (zaj.run (P := Tryd.prog) (N := 23) (K := fun ex st' => ex = .normal /\ Ent st' { s := [(2, .one (.v (.slice A gs.length c))), (3, .one (.p 0 0)), (4, .one (.p 1 0)), (6, .one (.p 2 0))], m := [(0, .cells 3 [.v (.int .i64 k0)]), (1, .cells 41 ((TT.mk k n s la lc ls aa ac us).cells.map SA.v)), (2, .cells 41 zap)], k := 3, f := [aG A c gs (TT.mk k n s la lc ls aa ac us)] }) (zaj.fixed zac rfl ?_) none 9 _ e _ w rfl hS0) ?_)
 ·exact ⟨rfl, zaa [(0, .blk 0), (1, .blk 1), (2, .blk 2)] rfl rfl rfl rfl (leB rfl) (rs rfl rfl) (rm rfl rfl) ⟨⟨aG.up _ _ _ _, fun w h => h.1⟩, trivial⟩⟩
 rintro ex a1 w1 ⟨e1, st1, ⟨rfl, hE1⟩, hS1⟩
 obtain ⟨e1, hS1⟩ := hE1.run _ _ _ _ hS1
 refine wpIn_seq (wpIn_mono (zaj.run (P := Tryd.prog) (N := 23) (K := fun ex st' => ex = .normal /\ ∃ x : TT, x.tm = tt /\ Ent st' { s := [(2, .one (.v (.slice A gs.length c))), (3, .one (.p 0 0)), (6, .one (.p 2 0)), (7, .one (.p 3 0))], m := [(3, .cells 41 (x.cells.map SA.v)), (0, .cells 3 [.v (.int .i64 k0)]), (2, .cells 41 zap)], k := 4, f := [aG A c gs x] }) (zaj.fixed zac rfl ?_) none 9 _ e1 _ w1 rfl hS1) ?_)
 ·refine zab [] hc0 rfl trivial rfl rfl (fun w h => h.1.2) (fun x _ => ?_) (fun x hx => ?_)
  ·obtain ⟨vk, vn, vnm, vla, vlc, vls, vaa, vac, vus⟩ := x
   exact ⟨rfl, rfl⟩
  have hx : x.tm = tt := hx
  obtain ⟨vk, vn, vnm, vla, vlc, vls, vaa, vac, vus⟩ := x
  exact ⟨rfl, (TT.mk vk vn vnm vla vlc vls vaa vac vus), hx, zaa [(0, .blk 0), (2, .blk 2), (3, .blk 3)] rfl rfl rfl rfl (leB rfl) (rs rfl rfl) (rm rfl rfl) ⟨⟨aG.up _ _ _ _, fun w h => ⟨h.2.1.1, h.1⟩⟩, trivial⟩⟩
 rintro ex a2 w2 ⟨e2, st2, ⟨rfl, x0, hx0, hE2⟩, hS2⟩
 obtain ⟨e2, hS2⟩ := hE2.run _ _ _ _ hS2
 clear hS0 hS1 hE1 hE2 hc0
 refine wpIn_seq (wpIn_seq (wpIn_mono (zaj.run (P := Tryd.prog) (N := 23) (K := fun ex st' => ex = .normal /\ Ent st' { s := bdS0, m := bdMX k0 A c gs x0, k := 5, f := [aG A c gs x0] }) (zaj.fixed zac rfl ?_) none 9 _ e2 _ w2 rfl hS2) ?_))
 ·refine zab [] (zj4 A gs.length c) rfl trivial rfl rfl (fun _ _ => trivial) (fun _ _ => ⟨rfl, rfl⟩) (fun _ _ => ?_)
  obtain ⟨vk, vn, vnm, vla, vlc, vls, vaa, vac, vus⟩ := x0
  exact ⟨rfl, zaa [(0, .blk 0), (2, .blk 2), (3, .blk 3), (4, .blk 4)] rfl rfl rfl rfl (leB rfl) (rs rfl rfl) (rm rfl rfl) ⟨⟨aG.up _ _ _ _, fun w h => h.2.1⟩, trivial⟩⟩
 rintro ex a3 w3 ⟨e3, st3, ⟨rfl, hE3⟩, hS3⟩
 obtain ⟨e3, hS3⟩ := hE3.run _ _ _ _ hS3
 clear hS2 hE3
 have hgl2 : (23 : Nat) = 23 := rfl
 have hitr := zyl 8 (e3.blk 4) A c gs hgl
 refine wpIn_block (zjl (N := 23) (v9 := 9) (tA := 41) (bdMX k0 A c gs) (aG A c gs) (fun pre x => x.tm = zu7 k0 tt pre) x0 (fun p : Nat × TT => .one (.v (.int .i64 (p.1 : Int)))) (fun p => ttA p.2) (fun p => p.2.cells) (za3 gs gs.length) (EB (e3.blk 4) A c gs) hS3 rfl hx0 (fun x => aG.upC _ _ _ _) (fun x => zf4 _ _ _ _ _) (fun x i => ?_) (fun i v hi => ?_) (fun u => ⟨trivial, ?_⟩) (by decide) (by decide) (by decide) (hS3.ev (x := .tmp 13) rfl).2 (enters_of Tryd.func144 (by kernel_rfl) rfl) (by decide) ?_ ?_ ?_ ?_ ?_)
 ·unfold bdMX
  simp only [Sym.get]
  repeat' split
  all_goals rfl
 ·unfold bdS0 at hi
  rcases zah hi with ⟨_, rfl⟩ | ⟨_, hi⟩
  ·rfl
  rcases zah hi with ⟨_, rfl⟩ | ⟨_, hi⟩
  ·rfl
  rcases zah hi with ⟨_, rfl⟩ | ⟨_, hi⟩
  ·rfl
  rcases zah hi with ⟨_, rfl⟩ | ⟨_, hi⟩
  ·rfl
  cases hi
 ·intro y hy
  obtain ⟨v, hv, rfl⟩ := List.mem_map.1 hy
  exact u.2.cells_one v hv
 ·have he : (fun u : Nat × TT => #[(SV.one (.v (.int .i64 (u.1 : Int)))).real e3, (ttA u.2).real e3]) = fun p : Nat × TT => #[.int .i64 (p.1 : Int), p.2.val] := by
   funext u
   rw [zfy]
   rfl
  rw [he]
  exact hitr
 ·intro x cx1 W hM
  have hf := hM.fact.1
  refine ⟨zkn (t := 39) (hM.cells 4 39 [.v (.slice A gs.length c)] rfl), fun j u hu => (hf.1.arg hu).1⟩
 ·rintro x ⟨i, uk, un, unm, ula, ulc, uls, uaa, uac, uus⟩
  obtain ⟨xk, xn, xnm, xla, xlc, xls, xaa, xac, xus⟩ := x
  refine zaj.fixed zac rfl ?_
  exact ⟨rfl, zaa [(0, .blk 0), (1, .blk 1), (2, .blk 2), (3, .blk 3), (4, .blk 4), (5, .blk 5)] rfl rfl rfl rfl (leB rfl) (rs rfl rfl) (rm rfl rfl) ⟨⟨aG.up _ _ _ _, fun w h => h.1⟩, trivial⟩⟩
 ·rintro pre ⟨i, u⟩ r x g9 hxs hxx
  have hu : gs[i]? = some u := zdx (p := (i, u)) (by rw [hxs]; simp)
  have hcl := zdf u (hBs u (List.mem_of_getElem? hu))
  obtain ⟨xk, xn, xnm, xla, xlc, xls, xaa, xac, xus⟩ := x
  obtain ⟨uk, un, unm, ula, ulc, uls, uaa, uac, uus⟩ := u
  refine zaj.block (zaj.draw zac rfl ?_)
  let hS : List (Nat × SV) := [(9, .one (.v (.pointer (some ⟨g9, 0, none⟩)))), (3, .one (.p 0 0)), (6, .one (.p 2 0)), (7, .one (.p 3 0)), (13, .one (.fn 144 [] [.p 4]))]
  let hM : List (Nat × LB) := [(3, .cells 41 ((TT.mk xk xn xnm xla xlc xls xaa xac xus).cells.map SA.v)), (0, .cells 3 [.v (.int .i64 k0)]), (2, .cells 41 zap), (4, .cells 39 [.v (.slice A gs.length c)])]
  let hF : List (World -> Prop) := [fun w => SlAt w (some ⟨g9, 0, none⟩) (TT.mk uk un unm ula ulc uls uaa uac uus).cells, aG A c gs (TT.mk xk xn xnm xla xlc xls xaa xac xus)]
  let x1 : Nat × SV := (17, .agg ((TT.mk uk un unm ula ulc uls uaa uac uus).cells.map SA.v))
  refine ⟨[0, 0, 2, 0, 14, 31, 63], [1, 2, 4, 5, 6], [(0, { dst := some 16, v := .one (.v (.int .i64 k0)), p := none, f := none }), (3, { dst := some 19, v := ttA (TT.mk xk xn xnm xla xlc xls xaa xac xus), p := none, f := none })], by kernel_rfl, rfl, by kernel_rfl, by kernel_rfl, rfl, rfl, rfl, rfl, ?_⟩
  refine zam ({ s := hS, m := hM, k := 5, f := hF, b := 5 }) [1] rfl (by kernel_rfl) (by kernel_rfl) ⟨⟨rfl, rfl⟩, ⟨rfl, rfl⟩, trivial⟩ ⟨?_, trivial⟩
  refine ⟨_, rfl, rfl, _, rfl, ?_⟩
  refine ⟨{ cs := (TT.mk uk un unm ula ulc uls uaa uac uus).cells }, ⟨TT.cells_one (TT.mk uk un unm ula ulc uls uaa uac uus), rfl, fun w h => ⟨_, rfl, fun l q hq => ?_⟩⟩, ?_⟩
  ·obtain ⟨a, ha, hc⟩ := h.1 l q hq
   cases ha
   exact hc
  refine zam ({ s := x1 :: hS, m := hM, k := 5, f := hF, b := 5 }) [2] rfl (by kernel_rfl) (by kernel_rfl) ⟨⟨rfl, rfl⟩, ⟨rfl, rfl⟩, trivial⟩ ⟨?_, trivial⟩
  refine ⟨_, rfl, rfl, _, rfl, ?_⟩
  refine zab [] hcl rfl trivial rfl rfl (fun w h => (h.2.1.1.arg hu).2) (fun x _ => ?_) (fun x hx => ?_)
  ·obtain ⟨vk, vn, vnm, vla, vlc, vls, vaa, vac, vus⟩ := x
   exact ⟨rfl, rfl⟩
  have hx : x.tm = ((TT.mk uk un unm ula ulc uls uaa uac uus)).tm := hx
  obtain ⟨vk, vn, vnm, vla, vlc, vls, vaa, vac, vus⟩ := x
  let x2 : Nat × SV := (18, ttA (TT.mk vk vn vnm vla vlc vls vaa vac vus))
  let f2 : World -> Prop := fun w => TTIn w (TT.mk vk vn vnm vla vlc vls vaa vac vus)
  let x4 : Nat × SV := (20, .one (.sl 5 0 2 2))
  let m4a : Nat × LB := (5, .cells 41 (((TT.mk vk vn vnm vla vlc vls vaa vac vus).cells ++ (TT.mk xk xn xnm xla xlc xls xaa xac xus).cells).map SA.v))
  let x5 : Nat × SV := (21, .agg [.v (.int .i64 k0), .v (.int .i64 0), .v (.string ⟨#[]⟩), .v (.slice none 0 0), .sl 5 0 2 2])
  let m6a : Nat × LB := (3, .cells 41 [.v (.int .i64 k0), .v (.int .i64 0), .v (.string ⟨#[]⟩), .v (.slice none 0 0), .sl 5 0 2 2])
  refine zam ({ s := x2 :: x1 :: hS, m := hM, k := 5, f := f2 :: hF, b := 5 }) [4] rfl (by kernel_rfl) (by kernel_rfl) ⟨⟨rfl, rfl⟩, ⟨rfl, rfl⟩, trivial⟩ ⟨?_, trivial⟩
  refine ⟨_, rfl, rfl, _, rfl, ?_⟩
  refine zam ({ s := x4 :: x2 :: x1 :: hS, m := m4a :: hM, k := 6, f := f2 :: hF, b := 5 }) [5] rfl (by kernel_rfl) (by kernel_rfl) ⟨⟨rfl, rfl⟩, ⟨rfl, trivial⟩, trivial⟩ ⟨?_, trivial⟩
  refine ⟨_, rfl, rfl, _, rfl, ?_⟩
  refine zam ({ s := x5 :: x4 :: x2 :: x1 :: hS, m := m4a :: hM, k := 6, f := f2 :: hF, b := 5 }) [6] rfl (by kernel_rfl) (by kernel_rfl) ⟨⟨rfl, trivial⟩, ⟨rfl, trivial⟩, trivial⟩ ⟨?_, trivial⟩
  refine ⟨_, rfl, rfl, _, rfl, ?_⟩
  refine zcm _ rfl (by kernel_rfl) ⟨⟨rfl, trivial⟩, ⟨rfl, trivial⟩, trivial⟩ ?_
  refine ⟨rfl, 5, _, _, (TT.mk vk vn vnm vla vlc vls vaa vac vus).cells ++ (TT.mk xk xn xnm xla xlc xls xaa xac xus).cells, rfl, fun e => rfl, fun g => ?_⟩
  refine ⟨TT.mk k0 0 ⟨#[]⟩ none 0 [] (some ⟨g, 0, none⟩) 2 [(TT.mk vk vn vnm vla vlc vls vaa vac vus), (TT.mk xk xn xnm xla xlc xls xaa xac xus)], ?_, ?_⟩
  ·rw [zu7, List.foldl_append]
   show (TT.mk k0 0 ⟨#[]⟩ none 0 [] (some ⟨g, 0, none⟩) 2 [(TT.mk vk vn vnm vla vlc vls vaa vac vus), (TT.mk xk xn xnm xla xlc xls xaa xac xus)]).tm = _
   rw [zbs]
   show Tm.mk k0 0 ⟨#[]⟩ [] [(TT.mk vk vn vnm vla vlc vls vaa vac vus).tm, (TT.mk xk xn xnm xla xlc xls xaa xac xus).tm] = _
   rw [hx, hxx]
   rfl
  exact zaa [(0, .blk 0), (1, .blk 1), (2, .blk 2), (3, .blk 3), (4, .blk 4)] rfl rfl rfl rfl (leB rfl) trivial (rm rfl rfl) ⟨⟨aG.up _ _ _ _, fun w h => ⟨h.2.2.2.1.1, zpa k0 _ _ 0 _ hk0 (I64.small _ (by decide) (by decide)) (Nat.zero_le _) h.1 h.2.1 h.2.2.2.1.2⟩⟩, trivial⟩
 ·rintro D W ⟨xk, xn, xnm, xla, xlc, xls, xaa, xac, xus⟩ hx hD hM hK
  have hx : ((TT.mk xk xn xnm xla xlc xls xaa xac xus)).tm = zu7 k0 tt (za3 gs gs.length) := hx
  rw [zka k0 gs gs.length tt (Nat.le_refl _), List.take_of_length_le (Nat.le_refl _)] at hx
  obtain ⟨cx2, hcx2⟩ : ∃ cz, Cx.here _ e3 (bdMX k0 A c gs (TT.mk xk xn xnm xla xlc xls xaa xac xus)) 5 W hM.hH' hM.hG' [{ target := .collected D, args := #[] }] = cz := ⟨_, rfl⟩
  have hm2 : Mem cx2 e3 (bdMX k0 A c gs (TT.mk xk xn xnm xla xlc xls xaa xac xus)) 5 [aG A c gs (TT.mk xk xn xnm xla xlc xls xaa xac xus)] W := by rw [<- hcx2]; exact hM.here _
  have hS4 : Sat cx2 e3 { s := bdS0, m := bdMX k0 A c gs (TT.mk xk xn xnm xla xlc xls xaa xac xus), k := 5, f := [aG A c gs (TT.mk xk xn xnm xla xlc xls xaa xac xus)], b := 5 } { a3 with defers := { target := .collected D, args := #[] } :: a3.defers } W := by
   refine ⟨by rw [<- hcx2]; rfl, by rw [<- hcx2]; exact hS3.size, ?_, hS3.slots, hm2⟩
   rw [<- hcx2]
   show _ :: a3.defers = _
   rw [hS3.defers]
   rfl
  refine wpIn_mono (zaj.run (P := Tryd.prog) (N := 23) (K := fun ex st' => ex = .ret /\ Ent st' { s := [(6, .one (.p 2 0))], m := [(2, .cells 41 ((TT.mk xk xn xnm xla xlc xls xaa xac xus).cells.map SA.v))], k := 5, f := [fun w => TTIn w (TT.mk xk xn xnm xla xlc xls xaa xac xus)], b := 5 }) (zaj.seq (zaj.fixed zac rfl ?_)) none 9 cx2 e3 _ W (by rw [<- hcx2]; rfl) hS4) ?_
  ·exact zaj.ret ⟨rfl, zaa [(0, .blk 0), (1, .blk 1), (2, .blk 2), (3, .blk 3), (4, .blk 4)] rfl rfl rfl rfl (leB rfl) (rs rfl rfl) (rm rfl rfl) ⟨⟨TTIn.upS _, fun w h => h.1.2⟩, trivial⟩⟩
  rintro ex a5 w5 ⟨e4, st4, ⟨rfl, hE5⟩, hS5⟩
  obtain ⟨e5, hS5⟩ := hE5.run _ _ _ _ hS5
  have hG2 : cx2.G = Sym.Own e3 (bdMX k0 A c gs (TT.mk xk xn xnm xla xlc xls xaa xac xus)) := by rw [<- hcx2]; rfl
  have hw2 : cx2.w0 = W := by rw [<- hcx2]; rfl
  have hfr5 : Fr (Sym.Own e3 (bdMX k0 A c gs (TT.mk xk xn xnm xla xlc xls xaa xac xus))) W w5 := by
   have := hS5.mem.fr
   rw [hG2, hw2] at this
   exact this
  have hkey : ∀ i, (Sym.get i (bdMX k0 A c gs (TT.mk xk xn xnm xla xlc xls xaa xac xus))).isSome = (Sym.get i (bdMX k0 A c gs x0)).isSome := fun i => by
   unfold bdMX
   simp only [Sym.get]
   repeat' split
   all_goals rfl
  refine zm0 (cx := cx) (D := D) (TT.mk xk xn xnm xla xlc xls xaa xac xus) hS5 (fun i b hi => ?_) rfl (TTIn.upCS _) (by rw [<- hcx2]; rfl) (by rw [<- hcx2]; rfl) rfl rfl hx rfl rfl rfl rfl ?_ (fun _ _ => rfl) hn0 (Nat.le_trans hS3.mem.fr.size hD) ((hfr5.block D (Array.getElem?_eq_some_iff.1 hK).1 ?_).trans hK) ((Fr.trans (G' := Sym.Own e3 (bdMX k0 A c gs x0)) hS3.mem.fr hM.fr fun g hg hx => ?_).trans hfr5 fun g hg hx => ?_)
  ·rcases zah hi with ⟨_, rfl⟩ | ⟨_, hi⟩
   ·exact ⟨_, _, rfl⟩
   cases hi
  ·intro y hy
   obtain ⟨v, hv, rfl⟩ := List.mem_map.1 hy
   exact TT.cells_one _ v hv
  ·rintro ⟨i, b, hb, hbg⟩
   obtain ⟨t, cs, rfl⟩ := zf4 _ _ _ _ _ i b hb
   have hc := hM.cells i t _ hb
   cases hbg
   rw [show W.heap[e3.blk i]? = _ from hc] at hK
   cases hK
  ·obtain ⟨i, hi⟩ := hx
   exact (hS3.mem.free i g hi).resolve_left (by show ¬ cx.w0.heap.size <= g; have hg : g < cx.w0.heap.size := hg; omega)
  ·obtain ⟨i, hi⟩ := hx
   exact (hS3.mem.free i g (zii (zf4 _ _ _ _ _) hkey (zf4 _ _ _ _ _) (fun _ _ _ => rfl) hi)).resolve_left (by show ¬ cx.w0.heap.size <= g; have hg : g < cx.w0.heap.size := hg; omega)
end Go.Proofs.YtmkpiekbpakigaaDoor
end
section
set_option linter.unusedVariables false
set_option linter.unusedSimpArgs false
namespace Go.Proofs.YtmkpiekbpakigaaDoor
open Go.RowKit Go.Proofs.Base Go.Proofs.Mono Go.Proofs.Sym
def ztm (x : Tm) : Bool -> Option Tm
 | true => some x
 | false => none
def zpw (k0 : Int) (ty : Tm) : Option Tm -> Option Tm
 | none => none
 | some b => ztm (.mk k0 0 ⟨#[]⟩ [] [ty, b]) (zbe ty && decide (za8 (.mk k0 0 ⟨#[]⟩ [] [ty, b]) <= 3000))
def zft (k0 : Int) (l : ByteArray × Tm) : Option Tm -> Option Tm
 | none => none
 | some r => zpw k0 l.2 (zj7 [l.1] r)
def zgb (k0 : Int) (o : Option Tm) (ps : List (Nat × (ByteArray × TT))) : Option Tm := ps.foldl (fun o p => zft k0 (locM p.2) o) o
theorem zgh (k0 : Int) : ∀ ps, zgb k0 none ps = none
 | [] => rfl
 | p :: r => zgh k0 r
theorem zkb (k0 : Int) (o : Option Tm) (ps qs : List (Nat × (ByteArray × TT))) : zgb k0 o (ps ++ qs) = zgb k0 (zgb k0 o ps) qs := by
 unfold zgb
 rw [List.foldl_append]
def clF (A : Option Addr) (gs : List (ByteArray × TT)) (w : World) : Prop := ML w /\ SlAt w A (locC gs) /\ ∀ l ∈ gs, TTIn w l.2
theorem clF.upC (A : Option Addr) (gs : List (ByteArray × TT)) : UpC (clF A gs) := fun w w' h ⟨⟨m, hm⟩, h2, h3⟩ => ⟨⟨m, h _ _ hm⟩, UpC.slat _ _ _ _ h h2, fun l hl => TTIn.upC h l.2 (h3 l hl)⟩
def clG (A : Option Addr) (gs : List (ByteArray × TT)) (x : TT) (w : World) : Prop := clF A gs w /\ TTIn w x
theorem clG.upC (A : Option Addr) (gs : List (ByteArray × TT)) (x : TT) : UpC (clG A gs x) := (clF.upC _ _).and (TTIn.upCS _)
theorem clG.up (A : Option Addr) (gs : List (ByteArray × TT)) (x : TT) : Up (clG A gs x) := (clG.upC _ _ _).up
def cl3 (A : Option Addr) (gs : List (ByteArray × TT)) (c : Nat) (g9 : Nat) (u : ByteArray × TT) (x y : TT) (w : World) : Prop := (SlAt w (some ⟨g9, 0, none⟩) (za6 u) /\ clG A gs x w) /\ TTIn w y
theorem cl3.up (A : Option Addr) (gs : List (ByteArray × TT)) (c : Nat) (g9 : Nat) (u : ByteArray × TT) (x y : TT) : Up (cl3 A gs c g9 u x y) := ((SlAt.up _ _).and (clG.up _ _ _)).and (TTIn.upS _)
theorem zpm {w : World} {g9 : Nat} {nm : ByteArray} {t : TT} (h : SlAt w (some ⟨g9, 0, none⟩) (za6 (nm, t))) (l : Nat) (q : Value) (hq : t.cells[l]? = some q) : w.cell? (((⟨g9, 0, none⟩ : Addr).add 1).add l) = some q := by
 obtain ⟨a, ha, hc⟩ := h (l + 1) q (by simpa [za6] using hq)
 cases ha
 rw [Addr.add_add, Nat.add_comm 1 l]
 exact hc
def clMX (k0 : Int) (A : Option Addr) (c : Nat) (gs : List (ByteArray × TT)) (x : TT) : List (Nat × LB) := [(4, .cells 41 (x.cells.map SA.v)), (1, .cells 3 [.v (.int .i64 k0)]), (2, .cells 41 zap), (3, .cells 4 [.v (.bool false)]), (5, .cells 110 [.v (.slice A gs.length c)])]
theorem zf3 (k0 : Int) (A : Option Addr) (c : Nat) (gs : List (ByteArray × TT)) (x : TT) : zg7 (clMX k0 A c gs x) := by
 intro i b hi
 unfold clMX at hi
 rcases zah hi with ⟨_, rfl⟩ | ⟨_, hi⟩
 ·exact ⟨_, _, rfl⟩
 rcases zah hi with ⟨_, rfl⟩ | ⟨_, hi⟩
 ·exact ⟨3, [.int .i64 k0], rfl⟩
 rcases zah hi with ⟨_, rfl⟩ | ⟨_, hi⟩
 ·exact ⟨41, [.int .i64 0, .int .i64 0, .string ⟨#[]⟩, .slice none 0 0, .slice none 0 0], rfl⟩
 rcases zah hi with ⟨_, rfl⟩ | ⟨_, hi⟩
 ·exact ⟨4, [.bool false], rfl⟩
 rcases zah hi with ⟨_, rfl⟩ | ⟨_, hi⟩
 ·exact ⟨110, [.slice A gs.length c], rfl⟩
 cases hi
theorem zna (k0 : Int) (A : Option Addr) (c : Nat) (gs : List (ByteArray × TT)) (x y : TT) (i : Nat) : (Sym.get i (clMX k0 A c gs x)).isSome = (Sym.get i (clMX k0 A c gs y)).isSome := by
 unfold clMX
 simp only [Sym.get]
 repeat' split
 all_goals rfl
def clS0 : List (Nat × SV) := [(4, .one (.p 1 0)), (6, .one (.p 2 0)), (7, .one (.p 3 0)), (8, .one (.p 4 0)), (25, .one (.fn 146 [] [.p 5]))]
set_option maxHeartbeats 8000000 in
theorem zxd (t : TT) (k0 : Int) (A : Option Addr) (c : Nat) (gs : List (ByteArray × TT)) (hbk : (decide (k0 = 6) || decide (k0 = 7)) = true) (hk0 : I64 k0) (hz : za8 t.tm <= 3000) (hr : zbe t.tm = true) (hgl : gs.length <= 1000000) (R : Tm) (hR : zgb k0 (some t.tm) (za3 gs gs.length) = some R) (hRr : zbe R = true) :
  zav Tryd.prog 77 [ttA t, .one (.v (.int .i64 k0)), .one (.v (.slice A gs.length c))] [] 0 (clG A gs t) (ze5 (some (some R))) (zb7 (some (some R))) := by
 have hc0 := zdf t (zc2 _ hz)
 have hrp := zb4 t
 rw [show zbm 4 1099511627776 t.tm = true from hr] at hrp
 have hbp := zh0 k0
 rw [hbk] at hbp
 obtain ⟨tt, htt⟩ : ∃ x, t.tm = x := ⟨_, rfl⟩
 rw [htt] at hc0 hR hz
 clear htt hr
 refine ⟨clG.up _ _ _, fun cx e w hw0 hn0 he0 hm hlt => ⟨⟨_, Tryd.func77, by kernel_rfl, rfl⟩, (callsIn_wide (n := 9)).1 (callsIn_of_wp_marks Tryd.func77 rfl trivial ?_ rfl)⟩⟩
 obtain ⟨k, n, s, la, lc, ls, aa, ac, us⟩ := t
 have hS0 := zmo (ntm := Tryd.f77.ntmps) (N := 57) hm hlt hn0 rfl (leB rfl)
 -- up to the range
 refine wpIn_seq (wpIn_mono (zaj.run (P := Tryd.prog) (N := 57) (K := fun ex st' => ex = .normal /\ Ent st' { s := [(2, .one (.v (.slice A gs.length c))), (3, .one (.p 0 0)), (4, .one (.p 1 0)), (6, .one (.p 2 0)), (7, .one (.p 3 0))], m := [(0, .cells 41 ((TT.mk k n s la lc ls aa ac us).cells.map SA.v)), (1, .cells 3 [.v (.int .i64 k0)]), (2, .cells 41 zap), (3, .cells 4 [.v (.bool false)])], k := 4, f := [clG A gs (TT.mk k n s la lc ls aa ac us)] }) (zaj.fixed zac rfl ?_) none 9 _ e _ w rfl hS0) ?_)
 ·exact ⟨rfl, zaa [(0, .blk 0), (1, .blk 1), (2, .blk 2), (3, .blk 3)] rfl rfl rfl rfl (leB rfl) (rs rfl rfl) (rm rfl rfl) ⟨⟨clG.up _ _ _, fun w h => h.1⟩, trivial⟩⟩
 rintro ex a1 w1 ⟨e1, st1, ⟨rfl, hE1⟩, hS1⟩
 obtain ⟨e1, hS1⟩ := hE1.run _ _ _ _ hS1
 refine wpIn_seq (wpIn_mono (zaj.run (P := Tryd.prog) (N := 57) (K := fun ex st' => ex = .normal /\ Ent st' { s := [(2, .one (.v (.slice A gs.length c))), (3, .one (.p 0 0)), (4, .one (.p 1 0)), (6, .one (.p 2 0)), (7, .one (.p 3 0))], m := [(0, .cells 41 ((TT.mk k n s la lc ls aa ac us).cells.map SA.v)), (1, .cells 3 [.v (.int .i64 k0)]), (2, .cells 41 zap), (3, .cells 4 [.v (.bool false)])], k := 4, f := [clG A gs (TT.mk k n s la lc ls aa ac us)] }) (zaj.seq (zaj.fixed zac rfl ?_)) none 9 _ e1 _ w1 rfl hS1) ?_)
 ·refine zae hbp (fun _ => rfl) (fun _ _ => trivial) ?_
  rintro r rfl
  refine zae hrp (fun _ => rfl) (fun w h => ⟨h.2.1.1.1, h.2.1.2⟩) ?_
  rintro r rfl
  refine zaj.cond_tmp rfl (fun h => by cases h) (fun h => zaj.skip ⟨rfl, ?_⟩)
  exact zaa [(0, .blk 0), (1, .blk 1), (2, .blk 2), (3, .blk 3)] rfl rfl rfl rfl (leB rfl) (rs rfl rfl) (rm rfl rfl) ⟨⟨clG.up _ _ _, fun w h => h.2.2.1⟩, trivial⟩
 rintro ex a2 w2 ⟨e2, st2, ⟨rfl, hE2⟩, hS2⟩
 obtain ⟨e2, hS2⟩ := hE2.run _ _ _ _ hS2
 refine wpIn_seq (wpIn_mono (zaj.run (P := Tryd.prog) (N := 57) (K := fun ex st' => ex = .normal /\ ∃ x : TT, x.tm = tt /\ Ent st' { s := [(2, .one (.v (.slice A gs.length c))), (4, .one (.p 1 0)), (6, .one (.p 2 0)), (7, .one (.p 3 0)), (8, .one (.p 4 0))], m := [(4, .cells 41 (x.cells.map SA.v)), (1, .cells 3 [.v (.int .i64 k0)]), (2, .cells 41 zap), (3, .cells 4 [.v (.bool false)])], k := 5, f := [clG A gs x] }) (zaj.fixed zac rfl ?_) none 9 _ e2 _ w2 rfl hS2) ?_)
 ·refine zab [] hc0 rfl trivial rfl rfl (fun w h => h.1.2) (fun x _ => ?_) (fun x hx => ?_)
  ·obtain ⟨vk, vn, vnm, vla, vlc, vls, vaa, vac, vus⟩ := x
   exact ⟨rfl, rfl⟩
  have hx : x.tm = tt := hx
  obtain ⟨vk, vn, vnm, vla, vlc, vls, vaa, vac, vus⟩ := x
  exact ⟨rfl, (TT.mk vk vn vnm vla vlc vls vaa vac vus), hx, zaa [(1, .blk 1), (2, .blk 2), (3, .blk 3), (4, .blk 4)] rfl rfl rfl rfl (leB rfl) (rs rfl rfl) (rm rfl rfl) ⟨⟨clG.up _ _ _, fun w h => ⟨h.2.1.1, h.1⟩⟩, trivial⟩⟩
 rintro ex a3 w3 ⟨e3, st3, ⟨rfl, x0, hx0, hE3⟩, hS3⟩
 obtain ⟨e3, hS3⟩ := hE3.run _ _ _ _ hS3
 clear hS0 hS1 hE1 hE2 hS2 hE3 hc0 hrp hbp
 refine wpIn_seq (wpIn_seq (wpIn_mono (zaj.run (P := Tryd.prog) (N := 57) (K := fun ex st' => ex = .normal /\ Ent st' { s := clS0, m := clMX k0 A c gs x0, k := 6, f := [clG A gs x0] }) (zaj.fixed zac rfl ?_) none 9 _ e3 _ w3 rfl hS3) ?_))
 ·refine zab [] (zjv A gs.length c) rfl trivial rfl rfl (fun _ _ => trivial) (fun _ _ => ⟨rfl, rfl⟩) (fun _ _ => ?_)
  obtain ⟨vk, vn, vnm, vla, vlc, vls, vaa, vac, vus⟩ := x0
  exact ⟨rfl, zaa [(1, .blk 1), (2, .blk 2), (3, .blk 3), (4, .blk 4), (5, .blk 5)] rfl rfl rfl rfl (leB rfl) (rs rfl rfl) (rm rfl rfl) ⟨⟨clG.up _ _ _, fun w h => h.2.1⟩, trivial⟩⟩
 rintro ex a4 w4 ⟨e4, st4, ⟨rfl, hE4⟩, hS4⟩
 obtain ⟨e4, hS4⟩ := hE4.run _ _ _ _ hS4
 clear hS3 hE4
 have hitr := zz4 8 (e4.blk 5) A c gs hgl
 refine wpIn_block (zjl (N := 57) (v9 := 10) (tA := 114) (clMX k0 A c gs) (clG A gs) (fun pre x => zgb k0 (some tt) pre = some x.tm /\ za8 x.tm <= 3000) x0 (fun p : Nat × (ByteArray × TT) => .one (.v (.int .i64 (p.1 : Int)))) (fun p => .agg ((za6 p.2).map SA.v)) (fun p => za6 p.2) (za3 gs gs.length) (EL (e4.blk 5) A c gs) hS4 rfl ⟨by rw [hx0]; rfl, by rw [hx0]; exact hz⟩ (fun x => clG.upC _ _ _) (fun x => zf3 _ _ _ _ _) (fun x i => zna _ _ _ _ _ _ _) (fun i v hi => ?_) (fun u => ⟨trivial, ?_⟩) (by decide) (by decide) (by decide) (hS4.ev (x := .tmp 25) rfl).2 (enters_of Tryd.func146 (by kernel_rfl) rfl) (by decide) ?_ ?_ ?_ ?_ ?_)
 ·unfold clS0 at hi
  rcases zah hi with ⟨_, rfl⟩ | ⟨_, hi⟩
  ·rfl
  rcases zah hi with ⟨_, rfl⟩ | ⟨_, hi⟩
  ·rfl
  rcases zah hi with ⟨_, rfl⟩ | ⟨_, hi⟩
  ·rfl
  rcases zah hi with ⟨_, rfl⟩ | ⟨_, hi⟩
  ·rfl
  rcases zah hi with ⟨_, rfl⟩ | ⟨_, hi⟩
  ·rfl
  cases hi
 ·intro y hy
  obtain ⟨v, hv, rfl⟩ := List.mem_map.1 hy
  exact zfh u.2 v hv
 ·have he : (fun u : Nat × (ByteArray × TT) => #[(SV.one (.v (.int .i64 (u.1 : Int)))).real e4, (SV.agg ((za6 u.2).map SA.v)).real e4]) = fun p : Nat × (ByteArray × TT) => #[.int .i64 (p.1 : Int), .agg (za6 p.2).toArray] := by
   funext u
   show #[Value.int .i64 (u.1 : Int), Value.agg (reals e4 ((za6 u.2).map SA.v)).toArray] = _
   rw [zbd]
  rw [he]
  exact hitr
 ·intro x cx1 W hM
  have hf := hM.fact.1
  refine ⟨zkn (t := 110) (hM.cells 5 110 [.v (.slice A gs.length c)] rfl), fun j u hu => ?_⟩
  have hsl := hf.1.2.1
  obtain ⟨a, ha, _⟩ := hsl _ _ (zig hu 0 _ rfl)
  refine ⟨a, ha, fun l v hv => ?_⟩
  obtain ⟨a2, ha2, hc⟩ := hsl _ _ (zig hu l v hv)
  rw [ha] at ha2
  cases ha2
  rw [Addr.add_add]
  exact hc
 ·rintro x ⟨i, nm, uk, un, unm, ula, ulc, uls, uaa, uac, uus⟩
  obtain ⟨xk, xn, xnm, xla, xlc, xls, xaa, xac, xus⟩ := x
  refine zaj.fixed zac rfl ?_
  exact ⟨rfl, zaa [(0, .blk 0), (1, .blk 1), (2, .blk 2), (3, .blk 3), (4, .blk 4), (5, .blk 5), (6, .blk 6)] rfl rfl rfl rfl (leB rfl) (rs rfl rfl) (rm rfl rfl) ⟨⟨clG.up _ _ _, fun w h => h.1⟩, trivial⟩⟩
 ·rintro pre ⟨i, nm, u⟩ r x g9 hxs ⟨hxx, hxz⟩
  have hu : gs[i]? = some (nm, u) := zdx (p := (i, (nm, u))) (by rw [hxs]; simp)
  have hTy : ∀ w, clG A gs x w -> TTIn w u := fun w h => h.1.2.2 (nm, u) (List.mem_of_getElem? hu)
  -- the step goes through
  obtain ⟨o, hpl⟩ : ∃ o, zj7 [nm] x.tm = o := ⟨_, rfl⟩
  have hstep : zgb k0 (zpw k0 u.tm o) r = some R := by
   have h := hR
   rw [hxs, zkb, hxx] at h
   rw [<- hpl]
   exact h
  have hnx : zgb k0 (some tt) (pre ++ [(i, (nm, u))]) = zpw k0 u.tm o := by
   rw [zkb, hxx, <- hpl]
   rfl
  cases o with
  | none =>
   have := (zgh k0 r).symm.trans hstep
   cases this
  | some b =>
  obtain ⟨q, hq⟩ : ∃ q, (zbe u.tm && decide (za8 (.mk k0 0 ⟨#[]⟩ [] [u.tm, b]) <= 3000)) = q := ⟨_, rfl⟩
  have hcb : zpw k0 u.tm (some b) = ztm (.mk k0 0 ⟨#[]⟩ [] [u.tm, b]) q := by rw [<- hq]; rfl
  rw [hcb] at hstep hnx
  cases q with
  | false =>
   have := (zgh k0 r).symm.trans hstep
   cases this
  | true =>
  rw [Bool.and_eq_true] at hq
  obtain ⟨hur, hsz⟩ := hq
  have hsz := of_decide_eq_true hsz
  have hsu : za8 u.tm <= 3000 := Nat.le_trans (Nat.le_of_lt (zd9 (k := k0) (n := 0) (s := ⟨#[]⟩) (ls := []) (us := [u.tm, b]) List.mem_cons_self)) hsz
  have hnext : ∀ z : TT, z.tm = .mk k0 0 ⟨#[]⟩ [] [u.tm, b] -> zgb k0 (some tt) (pre ++ [(i, (nm, u))]) = some z.tm /\ za8 z.tm <= 3000 := fun z hz2 => by
   rw [hnx, hz2]
   exact ⟨rfl, hsz⟩
  have hpull := fun g => zsz x (some ⟨g, 0, none⟩) 1 [nm] (zc2 _ hxz)
  rw [hpl] at hpull
  have hru := zb4 u
  rw [show zbm 4 1099511627776 u.tm = true from hur] at hru
  have hcl := zdf u (zc2 _ hsu)
  clear hpl hstep hnx hcb hxx hxz
  obtain ⟨xk, xn, xnm, xla, xlc, xls, xaa, xac, xus⟩ := x
  obtain ⟨uk, un, unm, ula, ulc, uls, uaa, uac, uus⟩ := u
  refine zaj.block (zaj.seq (zaj.fixed zac rfl ?_))
  refine ⟨{ v := .string nm }, fun w h => ⟨_, rfl, ?_⟩, ?_⟩
  ·obtain ⟨a, ha, hc⟩ := h.1 0 _ rfl
   cases ha
   exact hc
  refine zau 6 (vs := [.string nm]) rfl rfl (fun g => ?_)
  refine zab [] (hpull g) rfl trivial rfl rfl (fun w h => ⟨⟨h.2.2.1.1.1, h.1, fun h => (by cases h), Nat.le_refl _, by decide⟩, h.2.2.1.2⟩) (fun y _ => ?_) (fun y hy => ?_)
  ·obtain ⟨vk, vn, vnm, vla, vlc, vls, vaa, vac, vus⟩ := y
   exact ⟨rfl, rfl⟩
  have hy : y.tm = b := hy
  obtain ⟨yk, yn, ynm, yla, ylc, yls, yaa, yac, yus⟩ := y
  refine zaj.ent (st' := { s := [(12, .one (.v (.bool true))), (11, .one (.p 6 0)), (10, .one (.v (.pointer (some ⟨g9, 0, none⟩)))), (4, .one (.p 1 0)), (6, .one (.p 2 0)), (7, .one (.p 3 0)), (8, .one (.p 4 0))], m := [(4, .cells 41 ((TT.mk xk xn xnm xla xlc xls xaa xac xus).cells.map SA.v)), (1, .cells 3 [.v (.int .i64 k0)]), (2, .cells 41 zap), (3, .cells 4 [.v (.bool false)]), (5, .cells 110 [.v (.slice A gs.length c)]), (6, .cells 41 ((TT.mk yk yn ynm yla ylc yls yaa yac yus).cells.map SA.v))], k := 7, f := [cl3 A gs c g9 (nm, (TT.mk uk un unm ula ulc uls uaa uac uus)) (TT.mk xk xn xnm xla xlc xls xaa xac xus) (TT.mk yk yn ynm yla ylc yls yaa yac yus)], b := 6 }) (zaa [(0, .blk 0), (1, .blk 1), (2, .blk 2), (3, .blk 3), (4, .blk 4), (5, .blk 5), (6, .blk 7)] rfl rfl rfl rfl (leB rfl) (rs rfl rfl) (rm rfl rfl) ⟨⟨cl3.up _ _ _ _ _ _ _, fun w h => ⟨⟨h.2.2.1, h.2.2.2.1⟩, h.1⟩⟩, trivial⟩) ?_
  refine zaj.seq (zaj.seq (zaj.fixed zac rfl ?_))
  refine ⟨{ cs := (TT.mk uk un unm ula ulc uls uaa uac uus).cells }, ⟨TT.cells_one (TT.mk uk un unm ula ulc uls uaa uac uus), rfl, fun w h => ⟨_, rfl, fun l q hq => zpm h.1.1.1 l q hq⟩⟩, ?_⟩
  refine zae hru (fun _ => rfl) (fun w h => ⟨h.1.1.2.1.1, hTy w h.1.1.2⟩) ?_
  rintro r rfl
  refine zaj.cond_tmp rfl (fun h => by cases h) (fun h => zaj.skip ?_)
  refine zaj.ent (st' := { s := [(12, .one (.v (.bool true))), (11, .one (.p 6 0)), (10, .one (.v (.pointer (some ⟨g9, 0, none⟩)))), (4, .one (.p 1 0)), (6, .one (.p 2 0)), (7, .one (.p 3 0)), (8, .one (.p 4 0))], m := [(4, .cells 41 ((TT.mk xk xn xnm xla xlc xls xaa xac xus).cells.map SA.v)), (1, .cells 3 [.v (.int .i64 k0)]), (2, .cells 41 zap), (3, .cells 4 [.v (.bool false)]), (5, .cells 110 [.v (.slice A gs.length c)]), (6, .cells 41 ((TT.mk yk yn ynm yla ylc yls yaa yac yus).cells.map SA.v))], k := 7, f := [cl3 A gs c g9 (nm, (TT.mk uk un unm ula ulc uls uaa uac uus)) (TT.mk xk xn xnm xla xlc xls xaa xac xus) (TT.mk yk yn ynm yla ylc yls yaa yac yus)], b := 6 }) (zaa [(0, .blk 0), (1, .blk 1), (2, .blk 2), (3, .blk 3), (4, .blk 4), (5, .blk 5), (6, .blk 6)] rfl rfl rfl rfl (leB rfl) (rs rfl rfl) (rm rfl rfl) ⟨⟨cl3.up _ _ _ _ _ _ _, fun w h => h.2.1⟩, trivial⟩) ?_
  refine zaj.draw zac rfl ?_
  let hS : List (Nat × SV) := [(12, .one (.v (.bool true))), (11, .one (.p 6 0)), (10, .one (.v (.pointer (some ⟨g9, 0, none⟩)))), (4, .one (.p 1 0)), (6, .one (.p 2 0)), (7, .one (.p 3 0)), (8, .one (.p 4 0))]
  let hM : List (Nat × LB) := [(4, .cells 41 ((TT.mk xk xn xnm xla xlc xls xaa xac xus).cells.map SA.v)), (1, .cells 3 [.v (.int .i64 k0)]), (2, .cells 41 zap), (3, .cells 4 [.v (.bool false)]), (5, .cells 110 [.v (.slice A gs.length c)]), (6, .cells 41 ((TT.mk yk yn ynm yla ylc yls yaa yac yus).cells.map SA.v))]
  let hF : List (World -> Prop) := [cl3 A gs c g9 (nm, (TT.mk uk un unm ula ulc uls uaa uac uus)) (TT.mk xk xn xnm xla xlc xls xaa xac xus) (TT.mk yk yn ynm yla ylc yls yaa yac yus)]
  let x2 : Nat × SV := (47, .agg ((TT.mk uk un unm ula ulc uls uaa uac uus).cells.map SA.v))
  refine ⟨[0, 0, 2, 6, 0, 30, 63, 127], [2, 3, 5, 6, 7], [(0, { dst := some 45, v := .one (.v (.int .i64 k0)), p := none, f := none }), (1, { dst := some 46, v := .one (.v (.pointer (some ((⟨g9, 0, none⟩ : Addr).add 1)))), p := none, f := none }), (4, { dst := some 49, v := ttA (TT.mk yk yn ynm yla ylc yls yaa yac yus), p := none, f := none })], by kernel_rfl, rfl, by kernel_rfl, by kernel_rfl, rfl, rfl, rfl, rfl, ?_⟩
  refine zam ({ s := hS, m := hM, k := 7, f := hF, b := 6 }) [2] rfl (by kernel_rfl) (by kernel_rfl) ⟨⟨rfl, rfl⟩, ⟨rfl, rfl⟩, ⟨rfl, rfl⟩, trivial⟩ ⟨?_, trivial⟩
  refine ⟨_, rfl, rfl, _, rfl, ?_⟩
  refine ⟨{ cs := (TT.mk uk un unm ula ulc uls uaa uac uus).cells }, ⟨TT.cells_one (TT.mk uk un unm ula ulc uls uaa uac uus), rfl, fun w h => ⟨_, rfl, fun l q hq => zpm h.1.1.1 l q hq⟩⟩, ?_⟩
  refine zam ({ s := x2 :: hS, m := hM, k := 7, f := hF, b := 6 }) [3] rfl (by kernel_rfl) (by kernel_rfl) ⟨⟨rfl, rfl⟩, ⟨rfl, trivial⟩, ⟨rfl, rfl⟩, trivial⟩ ⟨?_, trivial⟩
  refine ⟨_, rfl, rfl, _, rfl, ?_⟩
  refine zab [] hcl rfl trivial rfl rfl (fun w h => hTy w h.1.1.2) (fun x _ => ?_) (fun x hx => ?_)
  ·obtain ⟨vk, vn, vnm, vla, vlc, vls, vaa, vac, vus⟩ := x
   exact ⟨rfl, rfl⟩
  have hx : x.tm = ((TT.mk uk un unm ula ulc uls uaa uac uus)).tm := hx
  obtain ⟨vk, vn, vnm, vla, vlc, vls, vaa, vac, vus⟩ := x
  let x3 : Nat × SV := (48, ttA (TT.mk vk vn vnm vla vlc vls vaa vac vus))
  let f3 : World -> Prop := fun w => TTIn w (TT.mk vk vn vnm vla vlc vls vaa vac vus)
  let x5 : Nat × SV := (50, .one (.sl 7 0 2 2))
  let m5a : Nat × LB := (7, .cells 41 (((TT.mk vk vn vnm vla vlc vls vaa vac vus).cells ++ (TT.mk yk yn ynm yla ylc yls yaa yac yus).cells).map SA.v))
  let x6 : Nat × SV := (51, .agg [.v (.int .i64 k0), .v (.int .i64 0), .v (.string ⟨#[]⟩), .v (.slice none 0 0), .sl 7 0 2 2])
  let m7a : Nat × LB := (4, .cells 41 [.v (.int .i64 k0), .v (.int .i64 0), .v (.string ⟨#[]⟩), .v (.slice none 0 0), .sl 7 0 2 2])
  refine zam ({ s := x3 :: x2 :: hS, m := hM, k := 7, f := f3 :: hF, b := 6 }) [5] rfl (by kernel_rfl) (by kernel_rfl) ⟨⟨rfl, rfl⟩, ⟨rfl, trivial⟩, ⟨rfl, rfl⟩, trivial⟩ ⟨?_, trivial⟩
  refine ⟨_, rfl, rfl, _, rfl, ?_⟩
  refine zam ({ s := x5 :: x3 :: x2 :: hS, m := m5a :: hM, k := 8, f := f3 :: hF, b := 6 }) [6] rfl (by kernel_rfl) (by kernel_rfl) ⟨⟨rfl, rfl⟩, ⟨rfl, trivial⟩, ⟨rfl, trivial⟩, trivial⟩ ⟨?_, trivial⟩
  refine ⟨_, rfl, rfl, _, rfl, ?_⟩
  refine zam ({ s := x6 :: x5 :: x3 :: x2 :: hS, m := m5a :: hM, k := 8, f := f3 :: hF, b := 6 }) [7] rfl (by kernel_rfl) (by kernel_rfl) ⟨⟨rfl, trivial⟩, ⟨rfl, trivial⟩, ⟨rfl, trivial⟩, trivial⟩ ⟨?_, trivial⟩
  refine ⟨_, rfl, rfl, _, rfl, ?_⟩
  refine zcm _ rfl (by kernel_rfl) ⟨⟨rfl, trivial⟩, ⟨rfl, trivial⟩, ⟨rfl, trivial⟩, trivial⟩ ?_
  refine ⟨rfl, 7, _, _, (TT.mk vk vn vnm vla vlc vls vaa vac vus).cells ++ (TT.mk yk yn ynm yla ylc yls yaa yac yus).cells, rfl, fun e => rfl, fun g => ?_⟩
  refine ⟨TT.mk k0 0 ⟨#[]⟩ none 0 [] (some ⟨g, 0, none⟩) 2 [(TT.mk vk vn vnm vla vlc vls vaa vac vus), (TT.mk yk yn ynm yla ylc yls yaa yac yus)], ?_, ?_⟩
  ·refine hnext _ ?_
   show (TT.mk k0 0 ⟨#[]⟩ none 0 [] (some ⟨g, 0, none⟩) 2 [(TT.mk vk vn vnm vla vlc vls vaa vac vus), (TT.mk yk yn ynm yla ylc yls yaa yac yus)]).tm = _
   rw [zbs]
   show Tm.mk k0 0 ⟨#[]⟩ [] [(TT.mk vk vn vnm vla vlc vls vaa vac vus).tm, (TT.mk yk yn ynm yla ylc yls yaa yac yus).tm] = _
   rw [hx, hy]
  exact zaa [(0, .blk 0), (1, .blk 1), (2, .blk 2), (3, .blk 3), (4, .blk 4), (5, .blk 5)] rfl rfl rfl rfl (leB rfl) trivial (rm rfl rfl) ⟨⟨clG.up _ _ _, fun w h => ⟨h.2.2.1.1.2.1, zpa k0 _ _ 0 _ hk0 (I64.small _ (by decide) (by decide)) (Nat.zero_le _) h.1 h.2.1 h.2.2.1.2⟩⟩, trivial⟩
 ·rintro D W ⟨xk, xn, xnm, xla, xlc, xls, xaa, xac, xus⟩ ⟨hx, _⟩ hD hM hK
  have hx : some R = some ((TT.mk xk xn xnm xla xlc xls xaa xac xus)).tm := hR.symm.trans hx
  have hx : ((TT.mk xk xn xnm xla xlc xls xaa xac xus)).tm = R := (Option.some.inj hx).symm
  have hrx := zb4 (TT.mk xk xn xnm xla xlc xls xaa xac xus)
  rw [show zbm 4 1099511627776 ((TT.mk xk xn xnm xla xlc xls xaa xac xus)).tm = true from by rw [hx]; exact hRr] at hrx
  obtain ⟨cx2, hcx2⟩ : ∃ cz, Cx.here _ e4 (clMX k0 A c gs (TT.mk xk xn xnm xla xlc xls xaa xac xus)) 6 W hM.hH' hM.hG' [{ target := .collected D, args := #[] }] = cz := ⟨_, rfl⟩
  have hm2 : Mem cx2 e4 (clMX k0 A c gs (TT.mk xk xn xnm xla xlc xls xaa xac xus)) 6 [clG A gs (TT.mk xk xn xnm xla xlc xls xaa xac xus)] W := by rw [<- hcx2]; exact hM.here _
  have hS5 : Sat cx2 e4 { s := clS0, m := clMX k0 A c gs (TT.mk xk xn xnm xla xlc xls xaa xac xus), k := 6, f := [clG A gs (TT.mk xk xn xnm xla xlc xls xaa xac xus)], b := 6 } { a4 with defers := { target := .collected D, args := #[] } :: a4.defers } W := by
   refine ⟨by rw [<- hcx2]; rfl, by rw [<- hcx2]; exact hS4.size, ?_, hS4.slots, hm2⟩
   rw [<- hcx2]
   show _ :: a4.defers = _
   rw [hS4.defers]
   rfl
  refine wpIn_mono (zaj.run (P := Tryd.prog) (N := 57) (K := fun ex st' => ex = .ret /\ Ent st' { s := [(6, .one (.p 2 0)), (7, .one (.p 3 0))], m := [(2, .cells 41 ((TT.mk xk xn xnm xla xlc xls xaa xac xus).cells.map SA.v)), (3, .cells 4 [.v (.bool true)])], k := 6, f := [fun w => TTIn w (TT.mk xk xn xnm xla xlc xls xaa xac xus)], b := 6 }) (zaj.seq (zaj.seq (zaj.fixed zac rfl ?_))) none 9 cx2 e4 _ W (by rw [<- hcx2]; rfl) hS5) ?_
  ·refine zae hrx (fun _ => rfl) (fun w h => ⟨h.1.1.1, h.1.2⟩) ?_
   rintro r rfl
   refine zaj.cond_tmp rfl (fun h => by cases h) (fun h => zaj.skip ?_)
   refine zaj.seq (zaj.fixed zac rfl ?_)
   exact zaj.ret ⟨rfl, zaa [(0, .blk 0), (1, .blk 1), (2, .blk 2), (3, .blk 3), (4, .blk 4), (5, .blk 5)] rfl rfl rfl rfl (leB rfl) (rs rfl rfl) (rm rfl rfl) ⟨⟨TTIn.upS _, fun w h => h.2.1.2⟩, trivial⟩⟩
  rintro ex a5 w5 ⟨e5, st5, ⟨rfl, hE6⟩, hS6⟩
  obtain ⟨e6, hS6⟩ := hE6.run _ _ _ _ hS6
  have hG2 : cx2.G = Sym.Own e4 (clMX k0 A c gs (TT.mk xk xn xnm xla xlc xls xaa xac xus)) := by rw [<- hcx2]; rfl
  have hw2 : cx2.w0 = W := by rw [<- hcx2]; rfl
  have hfr5 : Fr (Sym.Own e4 (clMX k0 A c gs (TT.mk xk xn xnm xla xlc xls xaa xac xus))) W w5 := by
   have := hS6.mem.fr
   rw [hG2, hw2] at this
   exact this
  refine zm0 (cx := cx) (D := D) (TT.mk xk xn xnm xla xlc xls xaa xac xus) hS6 (fun i b hi => ?_) rfl (TTIn.upCS _) (by rw [<- hcx2]; rfl) (by rw [<- hcx2]; rfl) rfl rfl hx rfl rfl rfl rfl ?_ (fun _ _ => rfl) hn0 (Nat.le_trans hS4.mem.fr.size hD) ((hfr5.block D (Array.getElem?_eq_some_iff.1 hK).1 ?_).trans hK) ((Fr.trans (G' := Sym.Own e4 (clMX k0 A c gs x0)) hS4.mem.fr hM.fr fun g hg hx => ?_).trans hfr5 fun g hg hx => ?_)
  ·rcases zah hi with ⟨_, rfl⟩ | ⟨_, hi⟩
   ·exact ⟨_, _, rfl⟩
   rcases zah hi with ⟨_, rfl⟩ | ⟨_, hi⟩
   ·exact ⟨4, [.bool true], rfl⟩
   cases hi
  ·intro y hy
   simp only [List.mem_cons, List.not_mem_nil, or_false] at hy
   rcases hy with rfl | rfl
   ·intro z hz
    obtain ⟨v, hv, rfl⟩ := List.mem_map.1 hz
    exact TT.cells_one _ v hv
   ·trivial
  ·rintro ⟨i, b, hb, hbg⟩
   obtain ⟨t, cs, rfl⟩ := zf3 _ _ _ _ _ i b hb
   have hc := hM.cells i t _ hb
   cases hbg
   rw [show W.heap[e4.blk i]? = _ from hc] at hK
   cases hK
  ·obtain ⟨i, hi⟩ := hx
   exact (hS4.mem.free i g hi).resolve_left (by show ¬ cx.w0.heap.size <= g; have hg : g < cx.w0.heap.size := hg; omega)
  ·obtain ⟨i, hi⟩ := hx
   exact (hS4.mem.free i g (zii (zf3 _ _ _ _ _) (zna _ _ _ _ _ _) (zf3 _ _ _ _ _) (fun _ _ _ => rfl) hi)).resolve_left (by show ¬ cx.w0.heap.size <= g; have hg : g < cx.w0.heap.size := hg; omega)
end Go.Proofs.YtmkpiekbpakigaaDoor
end
