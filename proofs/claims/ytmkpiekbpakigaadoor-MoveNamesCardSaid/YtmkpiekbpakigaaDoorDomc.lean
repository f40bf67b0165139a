/- What the claim needs of SymC, SymD, SymD2, SymE, in one text. -/
import Derived.Lib.AppendStr
import Derived.Test.YtmkpiekbpakigaaDoorDomb
section
set_option linter.unusedVariables false
set_option linter.unusedSimpArgs false
namespace Go.Proofs.Sym
open Go.RowKit Go.Proofs.Base Go.Proofs.Mono
theorem zcc (e : Env) (xs : List SA) : (reals e xs).length = xs.length := by simp [reals]
theorem zhh (e : Env) (xs : List SA) (i : Nat) : (reals e xs)[i]? = (xs[i]?).map (SA.real e) := by simp [reals]
theorem zbl (g o i : Nat) : (⟨g, o, none⟩ : Addr).add i = ⟨g, o + i, none⟩ := by unfold Addr.add; split <;> simp_all
theorem zje {T : Tab} {P : Program} (hT : T.Ok P) {t : Nat} {i : TyI} (h : get t T.ty = some i) : i.zero.length = i.size := (hT.ty _ (zak h)).2.2.1
theorem zcv {P : Program} {t : TypeId} {w : World} {a : Addr} {v : Value} (ha : (isAgg t).run P w = .ok false w) (hc : w.cell? a = some v) : (loadVar t a).run P w = .ok v w := by
 simp [loadVar, ha, hc]
theorem zcw {P : Program} {t : TypeId} {w : World} {a : Addr} {cs : List Value} (ha : (isAgg t).run P w = .ok true w) (hs : (sizeOf t).run P w = .ok cs.length w) (hc : ∀ j u, cs[j]? = some u -> w.cell? (a.add j) = some u) : (loadVar t a).run P w = .ok (.agg cs.toArray) w := by
 simp [loadVar, ha, hs, run_loadCells_list w a cs hc]
section
variable {P : Program} {T : Tab} {cx : Cx} {e : Env} {st : St} {o : Oper} {a : Act} {w : World}
theorem zkj (hS : Sat cx e st a w) {x : Operand} (ho : o.op = .move x \/ o.op = .assign x) : zcy P e st o a w (ze8 st x) := by
 unfold ze8
 split
 ·rename_i v hv
  obtain ⟨h1, h2⟩ := hS.ev hv
  refine ⟨h1, ?_⟩
  rcases ho with ho | ho <;> simp [execOp, ho, h2]
 ·trivial
theorem zrz (hS : Sat cx e st a w) {c x y : Operand} (ho : o.op = .pick c x y) : zcy P e st o a w (zn6 st c x y) := by
 unfold zn6
 split
 ·rename_i hc
  obtain ⟨_, h2⟩ := hS.ev hc
  unfold ze8
  split
  ·rename_i v hv
   obtain ⟨h3, h4⟩ := hS.ev hv
   refine ⟨h3, ?_⟩
   simp [execOp, ho, h2, h4, SV.real, SA.real, asBool]
  ·trivial
 ·rename_i hc
  obtain ⟨_, h2⟩ := hS.ev hc
  unfold ze8
  split
  ·rename_i v hv
   obtain ⟨h3, h4⟩ := hS.ev hv
   refine ⟨h3, ?_⟩
   simp [execOp, ho, h2, h4, SV.real, SA.real, asBool]
  ·trivial
 ·trivial
theorem zoc (hT : T.Ok P) (hS : Sat cx e st a w) {t : TypeId} (ho : o.op = .alloc t) : zcy P e st o a w (zlv T st t) := by
 unfold zlv
 split
 ·rename_i i hi
  refine ⟨Nat.lt_succ_self _, fun c hc => ?_, ?_⟩
  ·obtain ⟨u, hu, rfl⟩ := List.mem_map.1 hc
   exact (hT.ty _ (zak hi)).2.2.2.2 u hu
  ·simp only [execOp, ho, Instr.alloc, Sem.run_bind, hT.zero hi, Result.andThen_ok, newVar, newRow, run_newObj, Sem.run_pure, hT.cells hi, zbd]
   simp only [SV.real, SA.real, Env.setBlk_self]
   rfl
 ·trivial
theorem ztp (hS : Sat cx e st a w) {t : TypeId} {x : Operand} (ho : o.op = .box t x) : zcy P e st o a w (zse st t x) := by
 unfold zse
 split
 ·rename_i v hv
  split
  ·rename_i cs hcs
   obtain ⟨h1, h2⟩ := hS.ev hv
   obtain ⟨h3, h4⟩ := zf0 hcs e h1
   refine ⟨Nat.lt_succ_self _, h4, ?_⟩
   simp only [execOp, ho, Instr.box, Sem.run_bind, newVar, newRow, run_newObj, Result.andThen_ok, Sem.run_pure, h2, h3]
   simp only [SV.real, SA.real, Env.setBlk_self]
   rfl
  ·trivial
 ·trivial
theorem zd7 {i : TyI} {cs : List SA} {off : Nat} {v : SV} (h : ze3 i cs off = some v) (e : Env) {k : Nat} (hl : ∀ c ∈ cs, c.lt k) : v.lt k /\
  ((i.agg = true /\ off + i.size <= cs.length /\ v.real e = .agg (((reals e cs).drop off).take i.size).toArray) \/ (i.agg = false /\ (reals e cs)[off]? = some (v.real e))) := by
 unfold ze3 at h
 split at h
 ·rename_i ha
  split at h
  ·rename_i hb
   cases h
   refine ⟨fun x hx => hl x (List.mem_of_mem_drop (List.mem_of_mem_take hx)), .inl ⟨ha, Nat.le_of_ble_eq_true hb, ?_⟩⟩
   simp [SV.real, reals, List.map_drop, List.map_take]
  ·cases h
 ·rename_i ha
  split at h
  ·rename_i c hc
   cases h
   exact ⟨SA.lt0_of (hl c (List.mem_of_getElem? hc)), .inr ⟨ha, by rw [zhh, hc]; rfl⟩⟩
  ·cases h
theorem zwl {cx : Cx} {e : Env} {m : List (Nat × LB)} {k : Nat} {f : List (World -> Prop)} {w : World} (h : Mem cx e m k f w) {j E z n : Nat} {xs : List Value} (hj : get j m = some (.own E z n xs)) (hn : 0 < n) :
  ∃ g, (e.row j).1 = some ⟨g, 0, none⟩ /\ (e.row j).2.1 = n /\ ∀ l u, xs[l]? = some u -> w.cell? ⟨g, l, none⟩ = some u := by
 have h1 := h.own j E z n xs hj
 rcases h1.2 with ⟨hv, h0⟩ | ⟨g, cap, cur, hv, _, hh, _, _, hcs, ht⟩
 ·omega
 ·simp only [Env.rv, Value.slice.injEq] at hv
  refine ⟨g, hv.1, hv.2.1, fun l u hl => ?_⟩
  rw [cell_of_row w g l cur E (0, 0) hh]
  rw [<- ht, List.getElem?_take] at hl
  split at hl
  ·simpa using hl
  ·cases hl
theorem zabs {cx : Cx} {e : Env} {m : List (Nat × LB)} {k : Nat} {f : List (World -> Prop)} {w : World} (h : Mem cx e m k f w) {j E z n : Nat} {xs : List Value} (hj : get j m = some (.own E z n xs)) {l : Nat} {u : Value} (hl : xs[l]? = some u) : 0 < n := by
 have h1 := (h.own j E z n xs hj).1
 rcases Nat.eq_zero_or_pos n with rfl | h2
 ·have : xs = [] := List.eq_nil_of_length_eq_zero (by rw [h1, Nat.zero_mul])
  subst this
  simp at hl
 ·exact h2
theorem zrh (hT : T.Ok P) (hS : Sat cx e st a w) {t : TypeId} {x : Operand} (ho : o.op = .load t x) : zcy P e st o a w (zox T st t x) := by
 unfold zox
 split
 ·trivial
 rename_i i hi
 have hag := hT.isAgg hi w
 have hsz := hT.size hi w
 split
 ·rename_i j off hx
  have h2 : a.eval x = .pointer (some ⟨e.blk j, off, none⟩) := (hS.ev hx).2
  split
  ·rename_i t' cs hj
   split
   ·rename_i v hv
    obtain ⟨h3, h4⟩ := zd7 hv e (hS.mem.sc _ _ hj).2
    have hb := hS.mem.cells _ _ _ hj
    refine ⟨h3, ?_⟩
    simp only [execOp, ho, Instr.loadAt, Sem.run_bind, h2, Instr.sureAddr, Sem.run_pure, Result.andThen_ok]
    rcases h4 with ⟨ha, hle, hv2⟩ | ⟨ha, hv2⟩
    ·rw [ha] at hag
     rw [hv2, zcw (cs := ((reals e cs).drop off).take i.size) hag (by rw [hsz]; simp [zcc]; omega) (fun l u hl => ?_)]
     ·simp
     ·rw [zbl, hb.cell]
      rw [List.getElem?_take] at hl
      split at hl
      ·rw [List.getElem?_drop] at hl
       simpa using hl
      ·cases hl
    ·rw [ha] at hag
     rw [zcv hag (v := v.real e) (by rw [hb.cell]; simpa using hv2)]
     simp
   ·trivial
  ·trivial
 ·rename_i j off hx
  have h2 : a.eval x = .pointer ((e.row j).1.map fun a => ⟨a.block, off, none⟩) := (hS.ev hx).2
  split
  ·rename_i E z n xs hj
   split
   ·rename_i ha
    rw [ha] at hag
    rintro c ⟨hn, h1, h3, h4⟩
    refine ⟨fun y hy => ?_, ?_⟩
    ·obtain ⟨u, hu, rfl⟩ := List.mem_map.1 hy
     exact h1 u hu
    ·obtain ⟨g, hg, _, hc⟩ := zwl hS.mem hj hn
     simp only [execOp, ho, Instr.loadAt, Sem.run_bind, h2, SV.real, zbd, hg, Option.map_some, Instr.sureAddr, Sem.run_pure, Result.andThen_ok]
     rw [zcw (cs := c.cs) hag (by rw [hsz, h3]) (fun l u hl => by rw [zbl]; exact hc _ _ (h4 l u hl))]
     simp
   ·rename_i ha
    rw [ha] at hag
    intro c hc
    refine ⟨trivial, ?_⟩
    obtain ⟨g, hg, _, hcell⟩ := zwl hS.mem hj (zabs hS.mem hj hc)
    simp only [execOp, ho, Instr.loadAt, Sem.run_bind, h2, SV.real, SA.real, hg, Option.map_some, Instr.sureAddr, Sem.run_pure, Result.andThen_ok]
    rw [zcv hag (hcell _ _ hc)]
    simp
  ·trivial
 ·rename_i y hx
  have h2 : a.eval x = y := (hS.ev hx).2
  split
  ·rename_i ha
   rw [ha] at hag
   rintro c ⟨h1, h3, h4⟩
   obtain ⟨ad, rfl, hc⟩ := h4 w hS.mem.fact
   refine ⟨fun y hy => ?_, ?_⟩
   ·obtain ⟨u, hu, rfl⟩ := List.mem_map.1 hy
    exact h1 u hu
   ·simp only [execOp, ho, Instr.loadAt, Sem.run_bind, h2, SV.real, zbd, Instr.sureAddr, Sem.run_pure, Result.andThen_ok]
    rw [zcw (cs := c.cs) hag (by rw [hsz, h3]) hc]
    simp
  ·rename_i ha
   rw [ha] at hag
   intro c h4
   obtain ⟨ad, rfl, hc⟩ := h4 w hS.mem.fact
   refine ⟨trivial, ?_⟩
   simp only [execOp, ho, Instr.loadAt, Sem.run_bind, h2, SV.real, SA.real, Instr.sureAddr, Sem.run_pure, Result.andThen_ok]
   rw [zcv hag hc]
   simp
 ·trivial
theorem zdd (b : Nat) : ∀ (vs : List Value) (o : Nat) (w : World) (t : TypeId) (cs : List Value), Blk w b t cs.toArray -> o + vs.length <= cs.length ->
  Blk (w.setCells b o vs) b t (cs.take o ++ (vs ++ cs.drop (o + vs.length))).toArray
 | [], o, w, t, cs, h, hl => by simpa [World.setCells] using h
 | v :: r, o, w, t, cs, h, hl => by
  simp only [List.length_cons] at hl
  have h1 : Blk (w.setCell ⟨b, o, none⟩ v) b t (cs.set o v).toArray := by
   have := h.set_ o v
   rwa [List.setIfInBounds_toArray] at this
  have h2 := zdd b r (o + 1) _ t (cs.set o v) h1 (by simp; omega)
  simp only [World.setCells]
  have e1 : (cs.set o v).take (o + 1) = cs.take o ++ [v] := by
   rw [List.take_add_one, List.take_set_of_le (Nat.le_refl o), List.getElem?_set_self (by omega)]
   rfl
  have e2 : (cs.set o v).drop (o + 1 + r.length) = cs.drop (o + (v :: r).length) := by
   rw [List.drop_set_of_lt (by omega)]
   congr 1
   simp
   omega
  rw [e1, e2] at h2
  simpa using h2
theorem zd2 (b : Nat) : ∀ (vs : List Value) (o : Nat) (w : World) (g : Nat), g ≠ b -> (w.setCells b o vs).heap[g]? = w.heap[g]?
 | [], _, _, _, _ => rfl
 | v :: r, o, w, g, h => by
  simp only [World.setCells]
  rw [zd2 b r (o + 1) _ g h]
  exact Below.heap_setCell w ⟨b, o, none⟩ v g h
theorem zbg (b : Nat) : ∀ (vs : List Value) (o : Nat) (w : World), (w.setCells b o vs).os = w.os /\ (w.setCells b o vs).tape = w.tape /\ (w.setCells b o vs).output = w.output /\ (w.setCells b o vs).heap.size = w.heap.size
 | [], _, _ => ⟨rfl, rfl, rfl, rfl⟩
 | v :: r, o, w => by
  simp only [World.setCells]
  obtain ⟨h1, h2, h3, h4⟩ := zbg b r (o + 1) (w.setCell ⟨b, o, none⟩ v)
  exact ⟨h1, h2, h3, by rw [h4]; simp [World.setCell]⟩
theorem zn4 (hT : T.Ok P) (hS : Sat cx e st a w) {t : TypeId} {x y : Operand} (ho : o.op = .store t x y) : zcy P e st o a w (zl1 T st t x y) := by
 unfold zl1
 split
 ·rename_i ti i off v hi hx hy
  split
  ·rename_i t' cs hj
   split
   ·rename_i vs hvs
    split
    ·rename_i hb1 hb2
     have h1 : vs.length = ti.size := by rw [<- Nat.beq_eq]; exact hb1
     have h2 : off + vs.length <= cs.length := Nat.le_of_ble_eq_true hb2
     have hx2 : a.eval x = .pointer (some ⟨e.blk i, off, none⟩) := (hS.ev hx).2
     obtain ⟨hy1, hy2⟩ := hS.ev hy
     obtain ⟨hv1, hv2⟩ := zf0 hvs e hy1
     have hb := hS.mem.cells _ _ _ hj
     have hsc := (hS.mem.sc _ _ hj).2
     refine ⟨⟨_, hj⟩, fun c hc => ?_, w.setCells (e.blk i) off (reals e vs), ?_, ?_⟩
     ·rcases List.mem_append.1 hc with hc | hc
      ·exact hsc c (List.mem_of_mem_take hc)
      ·rcases List.mem_append.1 hc with hc | hc
       ·exact hv2 c hc
       ·exact hsc c (List.mem_of_mem_drop hc)
     ·have hst := run_storeCells_cells (P := P) (e.blk i) off (reals e vs) 0 w (fun l hl => by
        rw [hb.cell]
        have : off + 0 + l < (reals e cs).length := by simp only [zcc] at hl ⊢; omega
        rw [List.getElem?_toArray, List.getElem?_eq_getElem this]; rfl) (fun l hl => hb.frozen _) (fun u hu => by
        obtain ⟨c, hc, rfl⟩ := List.mem_map.1 hu
        exact zqp e (hv2 c hc))
      simp only [execOp, ho, Instr.storeAt, storeVar, Sem.run_bind, hx2, hy2, Instr.sureAddr, Sem.run_pure, Result.andThen_ok, hT.size hi, hv1]
      simp only [List.size_toArray, zcc, h1, ne_eq, not_true_eq_false, if_false, Sem.run_pure, Result.andThen_ok]
      rw [hst]
      simp
     ·refine ⟨?_, fun g hg => zd2 _ _ _ _ _ hg, (zbg _ _ _ _).1, (zbg _ _ _ _).2.1, (zbg _ _ _ _).2.2.1, (zbg _ _ _ _).2.2.2⟩
      have := zdd (e.blk i) (reals e vs) off w t' (reals e cs) hb (by simp only [zcc]; exact h2)
      simpa [reals, List.map_take, List.map_drop] using this
    ·trivial
   ·trivial
  ·trivial
 ·rename_i ti i off v hi hx hy
  split
  ·rename_i E z n xs hj
   split
   ·rename_i vs hvs
    split
    ·rename_i us hus
     rintro ⟨h1, hpos, hle, hone⟩
     have hx2 : a.eval x = .pointer ((e.row i).1.map fun a => ⟨a.block, off, none⟩) := (hS.ev hx).2
     obtain ⟨hy1, hy2⟩ := hS.ev hy
     obtain ⟨hv1, hv2⟩ := zf0 hvs e hy1
     rw [zbn e hus] at hv1
     have hown := hS.mem.own i E z n xs hj
     have hxl : 0 < xs.length := by omega
     rcases hown.2 with ⟨hv, h0⟩ | ⟨g, cap, cur, hv, hb0, hh, hnc, hcm, hcs, ht⟩
     ·have := hown.1
      rw [h0, Nat.zero_mul] at this
      omega
     have hrow : e.row i = (some ⟨g, 0, none⟩, n, cap) := by
      have hv' := hv
      simp only [Env.rv, Value.slice.injEq] at hv'
      exact Prod.ext hv'.1 (Prod.ext hv'.2.1 hv'.2.2)
     have hbk : Blk w g E cur.toList.toArray := hh
     have hcl : xs.length <= cur.toList.length := by rw [<- ht]; simp; omega
     have hst := run_storeCells_cells (P := P) g off us 0 w (fun l hl => by
      rw [hbk.cell]
      have : off + 0 + l < cur.toList.length := by omega
      rw [List.getElem?_toArray, List.getElem?_eq_getElem this]; rfl) (fun l hl => hbk.frozen _) hone
     refine ⟨⟨_, hj⟩, w.setCells g off us, ?_, ?_, fun q hq => zd2 _ _ _ _ _ (fun e1 => hq (by rw [hv, e1]; rfl)), (zbg _ _ _ _).1, (zbg _ _ _ _).2.1, (zbg _ _ _ _).2.2.1, (zbg _ _ _ _).2.2.2⟩
     ·rw [hrow] at hx2
      simp only [execOp, ho, Instr.storeAt, storeVar, Sem.run_bind, hx2, hy2, Instr.sureAddr, Sem.run_pure, Result.andThen_ok, hT.size hi, hv1, Option.map_some]
      simp only [List.size_toArray, h1, ne_eq, not_true_eq_false, if_false, Sem.run_pure, Result.andThen_ok]
      rw [hst]
      simp
     ·have hnew := zdd g us off w E cur.toList hbk (by omega)
      refine ⟨by have := hown.1; simp; omega, .inr ⟨g, cap, _, hv, Nat.zero_le _, hnew, hnc, hcm, ?_, ?_⟩⟩
      ·have : cur.toList.length = cur.size := by simp
       simp only [List.size_toArray, List.length_append, List.length_take, List.length_drop]
       omega
      ·have hn := hown.1
       rw [<- hn] at ht ⊢
       rw [<- ht]
       have hlc : cur.toList.length = cur.size := by simp
       have emin : min xs.length cur.toList.length = xs.length := Nat.min_eq_left hcl
       apply List.ext_getElem?
       intro q
       simp only [List.getElem?_take, List.getElem?_append, List.getElem?_drop, List.length_take, List.length_append, List.length_drop, emin]
       by_cases c1 : q < off
       ·have c2 : q < xs.length := by omega
        have c3 : q < min off cur.toList.length := by omega
        have c4 : q < min off xs.length := by omega
        simp only [c1, c2, c3, c4, if_true]
       ·by_cases c5 : q < off + us.length
        ·have c2 : q < xs.length := by omega
         have c3 : ¬ q < min off cur.toList.length := by omega
         have c4 : ¬ q < min off xs.length := by omega
         have c6 : q - min off cur.toList.length < us.length := by omega
         have c7 : q - min off xs.length < us.length := by omega
         have c8 : q - min off cur.toList.length = q - min off xs.length := by omega
         simp only [c2, c3, c4, c6, c7, if_true, if_false, c8]
        ·have c3 : ¬ q < min off cur.toList.length := by omega
         have c4 : ¬ q < min off xs.length := by omega
         have c6 : ¬ q - min off cur.toList.length < us.length := by omega
         have c7 : ¬ q - min off xs.length < us.length := by omega
         have c9 : off + us.length + (q - min off cur.toList.length - us.length) = q := by omega
         have c10 : off + us.length + (q - min off xs.length - us.length) = q := by omega
         simp only [c3, c4, c6, c7, if_false, c9, c10]
    ·trivial
   ·trivial
  ·trivial
 ·trivial
theorem ziw (hT : T.Ok P) (hS : Sat cx e st a w) {t : TypeId} {x : Operand} {j : Nat} (ho : o.op = .fieldAddr t x j) : zcy P e st o a w (zfq T st t x j) := by
 unfold zfq
 split
 ·trivial
 rename_i fs hfs
 split
 ·trivial
 rename_i off ft hf
 split
 ·trivial
 rename_i ti hti
 obtain ⟨gs, hg1, hg2⟩ := hT.fld _ (zak hfs)
 simp only at hg1 hg2
 have hgj : ∃ f, gs[j]? = some f /\ f.offset = off /\ f.type = ft := by
  rw [<- hg2] at hf
  simp only [List.getElem?_map, Array.getElem?_toList] at hf
  cases hq : gs[j]? with
  | none => rw [hq] at hf; simp at hf
  | some f =>
   rw [hq] at hf
   simp only [Option.map_some, Option.some.injEq, Prod.mk.injEq] at hf
   exact ⟨f, rfl, hf⟩
 obtain ⟨f, hf1, hf2, hf3⟩ := hgj
 have hsz := hT.size hti w
 split
 ·rename_i q i o' hq hx
  have hx2 : a.eval x = .pointer (some ⟨e.blk i, o', none⟩) := (hS.ev hx).2
  refine ⟨(hS.ev hx).1, ?_⟩
  simp only [execOp, ho, Instr.fieldAt, Sem.run_bind, run_underlying hg1, Result.andThen_ok, hf1, hx2, Instr.sureAddr, Sem.run_pure, fieldPlace, hf3, hsz, hq, hf2]
  simp [SV.real, SA.real, zbl]
 ·rename_i q ad hq hx
  have hx2 : a.eval x = .pointer (some ad) := (hS.ev hx).2
  refine ⟨trivial, ?_⟩
  simp only [execOp, ho, Instr.fieldAt, Sem.run_bind, run_underlying hg1, Result.andThen_ok, hf1, hx2, Instr.sureAddr, Sem.run_pure, fieldPlace, hf3, hsz, hq, hf2]
  simp [SV.real, SA.real]
 ·trivial
theorem zqy {ti : TyI} {ft : TypeId} (hT : T.Ok P) (hti : get ft T.ty = some ti) {cs : List SA} {off : Nat} {u : SV} (hu : ze3 ti cs off = some u) (e : Env) {k : Nat} (hl : ∀ c ∈ cs, c.lt k) (w : World) :
  (part ft (reals e cs).toArray off).run P w = .ok (u.real e) w := by
 obtain ⟨h3, h4⟩ := zd7 hu e hl
 simp only [part, Sem.run_bind, hT.isAgg hti, Result.andThen_ok]
 rcases h4 with ⟨ha, hle, hv2⟩ | ⟨ha, hv2⟩
 ·simp only [ha, if_true, Sem.run_bind, hT.size hti, Result.andThen_ok, Sem.run_pure, hv2]
  congr 2
  apply Array.ext'
  simp [Array.toList_extract, List.extract_eq_take_drop]
 ·simp only [ha, Bool.false_eq_true, if_false, List.getElem?_toArray, hv2, Sem.run_pure]
theorem znx (hT : T.Ok P) (hS : Sat cx e st a w) {t : TypeId} {x : Operand} {j : Nat} (ho : o.op = .field t x j) : zcy P e st o a w (zle T st t x j) := by
 unfold zle
 split
 ·trivial
 rename_i fs hfs
 split
 ·trivial
 rename_i off ft hf
 obtain ⟨gs, hg1, hg2⟩ := hT.fld _ (zak hfs)
 simp only at hg1 hg2
 have hgj : ∃ f, gs[j]? = some f /\ f.offset = off /\ f.type = ft := by
  rw [<- hg2] at hf
  simp only [List.getElem?_map, Array.getElem?_toList] at hf
  cases hq : gs[j]? with
  | none => rw [hq] at hf; simp at hf
  | some f =>
   rw [hq] at hf
   simp only [Option.map_some, Option.some.injEq, Prod.mk.injEq] at hf
   exact ⟨f, rfl, hf⟩
 obtain ⟨f, hf1, hf2, hf3⟩ := hgj
 split
 ·rename_i ti v hti hx
  split
  ·rename_i cs hcs
   split
   ·rename_i u hu
    obtain ⟨h1, h2⟩ := hS.ev hx
    obtain ⟨h3, h4⟩ := zgz hcs e h1
    refine ⟨(zd7 hu e h4).1, ?_⟩
    simp only [execOp, ho, Instr.field, Sem.run_bind, run_underlying hg1, Result.andThen_ok, hf1, h2, h3, asAgg, Sem.run_pure, hf2, hf3, zqy hT hti hu e h4]
   ·trivial
  ·trivial
 ·trivial
theorem zi1 (hT : T.Ok P) (hS : Sat cx e st a w) {t : TypeId} {x ix : Operand} (ho : o.op = .indexAddr t x ix) : zcy P e st o a w (ze7 T st t x ix) := by
 unfold ze7
 split
 ·rename_i E hu
  have hu := hT.u _ (zak hu)
  simp only at hu
  split
  ·rename_i ti A n c k i hti hx hix
   have hx2 : a.eval x = .slice A n c := (hS.ev hx).2
   have hi2 : a.eval ix = .int k i := (hS.ev hix).2
   rintro ch ⟨rfl, hn, hA⟩
   obtain ⟨ad, rfl⟩ := Option.isSome_iff_exists.1 (hA w hS.mem.fact)
   refine ⟨trivial, ?_⟩
   simp only [execOp, ho, Instr.indexAt, Sem.run_bind, hx2, hi2, asIntOf, Sem.run_pure, Result.andThen_ok, run_underlying hu]
   rw [if_pos ⟨by omega, by omega⟩]
   simp [hT.size hti, SV.real, SA.real]
  ·rename_i ti j o' n c k i hti hx hix
   have hx2 : a.eval x = .slice (some ⟨e.blk j, o', none⟩) n c := (hS.ev hx).2
   have hi2 : a.eval ix = .int k i := (hS.ev hix).2
   rintro ch ⟨rfl, hn⟩
   refine ⟨(hS.ev hx).1, ?_⟩
   simp only [execOp, ho, Instr.indexAt, Sem.run_bind, hx2, hi2, asIntOf, Sem.run_pure, Result.andThen_ok, run_underlying hu]
   rw [if_pos ⟨by omega, by omega⟩]
   simp [hT.size hti, SV.real, SA.real, zbl]
  ·rename_i ti j k i hti hx hix
   split
   ·rename_i E' z n xs hj
    have hx2 : a.eval x = e.rv j := (hS.ev hx).2
    have hi2 : a.eval ix = .int k i := (hS.ev hix).2
    rintro ch ⟨rfl, hn, rfl⟩
    obtain ⟨g, hg, hg2, hc⟩ := zwl hS.mem hj (by omega)
    refine ⟨(hS.ev hx).1, ?_⟩
    simp only [execOp, ho, Instr.indexAt, Sem.run_bind, hx2, Env.rv, hg, hg2, hi2, asIntOf, Sem.run_pure, Result.andThen_ok, run_underlying hu]
    rw [if_pos ⟨by omega, by omega⟩]
    simp [hT.size hti, SV.real, SA.real, zbl, hg]
   ·trivial
  ·trivial
 ·rename_i n E hu
  have hu := hT.u _ (zak hu)
  simp only at hu
  split
  ·rename_i ti j o' k i hti hx hix
   have hx2 : a.eval x = .pointer (some ⟨e.blk j, o', none⟩) := (hS.ev hx).2
   have hi2 : a.eval ix = .int k i := (hS.ev hix).2
   rintro ch ⟨rfl, hn⟩
   refine ⟨(hS.ev hx).1, ?_⟩
   simp only [execOp, ho, Instr.indexAt, Sem.run_bind, hx2, hi2, asIntOf, Sem.run_pure, Result.andThen_ok, run_underlying hu, Instr.sureAddr]
   rw [if_pos ⟨by omega, by omega⟩]
   simp [hT.size hti, SV.real, SA.real, zbl]
  ·trivial
 ·trivial
theorem zot (hT : T.Ok P) (hS : Sat cx e st a w) {t : TypeId} {x ix : Operand} (ho : o.op = .index t x ix) : zcy P e st o a w (zly T st t x ix) := by
 unfold zly
 split
 ·rename_i n E v k i hu hx hix
  have hu := hT.u _ (zak hu)
  simp only at hu
  split
  ·rename_i ti cs hti hcs
   have hi2 : a.eval ix = .int k i := (hS.ev hix).2
   obtain ⟨h1, h2⟩ := hS.ev hx
   obtain ⟨h3, h4⟩ := zgz hcs e h1
   rintro ch ⟨rfl, hn, hs⟩
   obtain ⟨u, hu2, hu3⟩ := zabu hs
   simp only [hu3]
   refine ⟨(zd7 hu2 e h4).1, ?_⟩
   simp only [execOp, ho, Instr.index, Sem.run_bind, h2, h3, hi2, asIntOf, Sem.run_pure, Result.andThen_ok, run_underlying hu]
   rw [if_pos ⟨by omega, by omega⟩]
   simp [hT.size hti, zqy hT hti hu2 e h4]
  ·trivial
 ·rename_i s k i hu hx hix
  have hu := hT.u _ (zak hu)
  simp only at hu
  have hx2 : a.eval x = .string s := (hS.ev hx).2
  have hi2 : a.eval ix = .int k i := (hS.ev hix).2
  rintro ch ⟨rfl, hn⟩
  refine ⟨trivial, ?_⟩
  simp only [execOp, ho, Instr.index, Sem.run_bind, hx2, hi2, asIntOf, Sem.run_pure, Result.andThen_ok, run_underlying hu]
  rw [if_pos (by omega)]
  have hb : s[((ch.n : Int)).toNat]? = some (s.data.toList.getD ch.n 0) := by
   simp only [Int.toNat_natCast]
   rw [getElem?_pos s ch.n hn]
   congr 1
   simp [List.getD, ByteArray.getElem_eq_getElem_data]
   rw [Array.getElem?_eq_getElem (by simpa using hn)]
   rfl
  rw [hb]
  simp [SV.real, SA.real]
 ·trivial
end
end Go.Proofs.Sym
end
section
set_option linter.unusedVariables false
set_option linter.unusedSimpArgs false
namespace Go.Proofs.Sym
open Go.RowKit Go.Proofs.Base Go.Proofs.Mono
def binI (op : BinOp) (k : IntKind) (a b : Int) : Option Value := match op with
 | .add => some (.int k (k.wrap (a + b)))
 | .sub => some (.int k (k.wrap (a - b)))
 | .mul => some (.int k (k.wrap (a * b)))
 | .and => some (.int k (k.wrap ((BitVec.ofInt k.bits a &&& BitVec.ofInt k.bits b).toNat)))
 | .or => some (.int k (k.wrap ((BitVec.ofInt k.bits a ||| BitVec.ofInt k.bits b).toNat)))
 | .xor => some (.int k (k.wrap ((BitVec.ofInt k.bits a ^^^ BitVec.ofInt k.bits b).toNat)))
 | .eql => some (.bool (decide (a = b)))
 | .neq => some (.bool (!decide (a = b)))
 | .lss => some (.bool (decide (a < b)))
 | .leq => some (.bool (decide (a <= b)))
 | .gtr => some (.bool (decide (b < a)))
 | .geq => some (.bool (decide (b <= a)))
 | _ => none
def binS (op : BinOp) (a b : ByteArray) : Option Value := match op with
 | .eql => some (.bool (decide (a = b)))
 | .neq => some (.bool (!decide (a = b)))
 | .lss => some (.bool (Op.bytesLess a.toList b.toList))
 | .leq => some (.bool (Op.bytesLess a.toList b.toList || decide (a = b)))
 | .gtr => some (.bool !(Op.bytesLess a.toList b.toList || decide (a = b)))
 | .geq => some (.bool !(Op.bytesLess a.toList b.toList))
 | _ => none
def detV : Option Value -> Sig
 | some v => .det (.one (.v v))
 | none => .bad
def isEq : BinOp -> Bool -> Option Bool
 | .eql, b => some b
 | .neq, b => some (!b)
 | _, _ => none
def detB : Option Bool -> Sig
 | some b => .det (.one (.v (.bool b)))
 | none => .bad
def zon : Operand -> Bool
 | .const _ => true
 | _ => false
def ztw (T : Tab) (st : St) (op : BinOp) (t : TypeId) (x y : Operand) : Sig := match ev st.s x, ev st.s y with
 | some (.one (.v (.int k a))), some (.one (.v (.int k' b))) => match op with
  | .shl => .pick (fun c => b = (c.n : Int)) (fun c => .one (.v (.int k (k.wrap (a * 2 ^ (min c.n k.bits))))))
  | .shr => .pick (fun c => b = (c.n : Int)) (fun c => .one (.v (.int k (a.fdiv (2 ^ (min c.n k.bits))))))
  | .quo => .pick (fun c => b ≠ 0 /\ k = k') (fun c => .one (.v (.int k (k.wrap (a.tdiv b)))))
  | .rem => .pick (fun c => b ≠ 0 /\ k = k') (fun c => .one (.v (.int k (a.tmod b))))
  | op => match decide (k = k') with
   | true => detV (binI op k a b)
   | false => .bad
 | some (.one (.v (.bool a))), some (.one (.v (.bool b))) => match get t T.u with
  | some .bool => detB (isEq op (a == b))
  | _ => .bad
 | some (.one (.v (.string a))), some (.one (.v (.string b))) => match op with
  | .add => .pick (fun c => a.size + b.size <= 9223372036854775807) (fun c => .one (.v (.string (a ++ b))))
  | op => detV (binS op a b)
 | some (.one (.v (.slice A n c))), some (.one (.v (.slice none 0 0))) => match get t T.u with
  | some (.slice _) => detB (isEq op A.isNone)
  | _ => .bad
 | some (.one (.v .nilIface)), some (.one (.v .nilIface)) => match get t T.u, zon x || zon y with
  | some (.interface _), true => detB (isEq op true)
  | _, _ => .bad
 | some (.one (.v (.iface _ _))), some (.one (.v .nilIface)) => match get t T.u with
  | some (.interface _) => detB (isEq op false)
  | _ => .bad
 | some u, some v => match get t T.eqs, zo6 u, zo6 v with
  | some n, some xs, some ys => match zcp xs, zcp ys with
   | some xs, some ys => match Nat.beq xs.length n, zf8 xs ys with
    | true, some r => detB (isEq op r)
    | _, _ => .bad
   | _, _ => .bad
  | _, _, _ => .bad
 | _, _ => .bad
def zzs (st : St) (op : UnOp) (x : Operand) : Sig := match op, ev st.s x with
 | .not, some (.one (.v (.bool b))) => .det (.one (.v (.bool !b)))
 | .neg, some (.one (.v (.int k n))) => .det (.one (.v (.int k (k.wrap (0 - n)))))
 | _, _ => .bad
def zi4 (w : World) (A : Option Addr) (l : List UInt8) : Prop := ∀ j b, l[j]? = some b -> ∃ a, A = some a /\ w.cell? (a.add j) = some (.int .u8 (b.toNat : Int))
theorem zi4.up (A : Option Addr) (l : List UInt8) : Up fun w => zi4 w A l := by
 intro w w' h hb j b hj
 obtain ⟨a, ha, hc⟩ := hb j b hj
 exact ⟨a, ha, h.cell hc⟩
def zo2 (T : Tab) (st : St) (src dst : TypeId) (x : Operand) : Sig := match get src T.u, get dst T.u, ev st.s x with
 | some _, some (.int k'), some (.one (.v (.int k n))) => .det (.one (.v (.int k' (k'.wrap n))))
 | some .string, some .string, some (.one (.v (.string s))) => .det (.one (.v (.string s)))
 | some (.slice E), some .string, some (.one (.v (.slice A n c))) => match get E T.u with
  | some (.int .u8) => .pick (fun ch => ch.b.size = n /\ ∀ w, AllF st.f w -> zi4 w A ch.b.data.toList) (fun ch => .one (.v (.string ch.b)))
  | _ => .bad
 | some (.slice E), some .string, some (.one (.row i)) => match get E T.u, get i st.m with
  | some (.int .u8), some (.own _ z n xs) => .pick (fun ch => ch.b.size = n /\ z = 1 /\ xs = ch.b.data.toList.map fun b => Value.int .u8 (b.toNat : Int)) (fun ch => .one (.v (.string ch.b)))
  | _, _ => .bad
 | some .string, some (.slice E), some (.one (.v (.string s))) => match get E T.u with
  | some (.int .u8) => .ask (fun u => ∃ a c, u = .slice (some a) s.size c) (fun u w => ∃ a c, u = .slice (some a) s.size c /\ zi4 w (some a) s.data.toList)
  | _ => .bad
 | _, _, _ => .bad
def zhs (st : St) (x : Operand) (j : Nat) : Sig := match ev st.s x with
 | some (.tup xs) => match xs[j]? with
  | some (.one y) => .det (.one y)
  | some (.agg ys) => .det (.agg ys)
  | none => .bad
 | some (.one (.v (.tuple vs))) => match vs.toList[j]? with
  | some v => .det (.one (.v v))
  | none => .bad
 | _ => .bad
def zvu : SV -> Option Cap
 | .one (.p i 0) => some (.p i)
 | .one (.v x) => some (.v x)
 | _ => none
def za1 {α β : Type} (f : α -> Option β) : List α -> Option (List β)
 | [] => some []
 | x :: r => match f x, za1 f r with
  | some y, some ys => some (y :: ys)
  | _, _ => none
def evs (s : List (Nat × SV)) (l : List Operand) : Option (List SV) := za1 (ev s) l
def caps (s : List (Nat × SV)) (l : List Operand) : Option (List Cap) := match evs s l with
 | some vs => za1 zvu vs
 | none => none
def Cap.sv : Cap -> SV
 | .p i => .one (.p i 0)
 | .v x => .one (.v x)
def zoy (st : St) (f : Fn) (fs cs : List Operand) : Sig := match f with
 | .func g => match caps st.s fs, caps st.s cs with
  | some a, some b => .det (.one (.fn g a b))
  | _, _ => .bad
 | _ => .bad
def zl6 (T : Tab) (st : St) (t : TypeId) (x : Operand) : Sig := match get t T.fld, get t T.u, ev st.s x with
 | some _, _, some v => match zo6 v with
  | some xs => match zcp xs with
   | some vs => .det (.one (.v (.iface t (.agg vs.toArray))))
   | none => .bad
  | none => .bad
 | none, some d, some (.one (.v v)) => match zkk d with
  | false => .det (.one (.v (.iface t v)))
  | true => .bad
 | _, _, _ => .bad
def zuz (T : Tab) (st : St) (t : TypeId) (x : Operand) : Sig := match get t T.u, ev st.s x with
 | some .string, some (.one (.v (.string s))) => .det (.one (.v (.int .i64 (s.size : Int))))
 | some (.slice _), some (.one (.v (.slice _ n _))) => .det (.one (.v (.int .i64 (n : Int))))
 | some (.slice _), some (.one (.sl _ _ n _)) => .det (.one (.v (.int .i64 (n : Int))))
 | some (.slice _), some (.one (.row i)) => match get i st.m with
  | some (.own _ _ n _) => .det (.one (.v (.int .i64 (n : Int))))
  | _ => .bad
 | _, _ => .bad
def zti (st : St) (x y : Operand) : Sig := match ev st.s x, ev st.s y with
 | some (.one (.v (.int k a))), some (.one (.v (.int _ b))) => .det (.one (.v (.int k (if b < a then b else a))))
 | _, _ => .bad
def ztz (st : St) (x y : Operand) : Sig := match ev st.s x, ev st.s y with
 | some (.one (.v (.int k a))), some (.one (.v (.int _ b))) => .det (.one (.v (.int k (if b > a then b else a))))
 | _, _ => .bad
def znq (st : St) (z0 : Nat) : SV -> Option (Option Nat × Nat × List Value × Option (Nat × Nat))
 | .one (.v (.slice none 0 0)) => some (none, 0, [], none)
 | .one (.row i) => match get i st.m with
  | some (.own E z n xs) => some (some i, n, xs, some (E, z))
  | _ => none
 | .one (.sl i 0 n c) => match get i st.m with
  | some (.cells E cs) => match zcp cs, Nat.beq n c, Nat.beq cs.length (n * z0), Nat.ble n 1000000 with
   | some vs, true, true, true => some (some i, n, vs, some (E, z0))
   | _, _, _, _ => none
  | _ => none
 | _ => none
def zaae (st : St) (z : Nat) : SV -> Option ((Ch -> Prop) × (Ch -> Nat) × (Ch -> List Value))
 | .one (.sl j o m c) => match get j st.m with
  | some (.cells _ cs) => match zcp ((cs.drop o).take (m * z)), Nat.ble (o + m * z) cs.length with
   | some vs, true => some (fun _ => True, fun _ => m, fun _ => vs)
   | _, _ => none
  | _ => none
 | .one (.v (.slice A m c)) => some (fun ch => ch.cs.length = m * z /\ (∀ u ∈ ch.cs, u.oneCell' = true) /\ (A = none -> m = 0 /\ c = 0) /\ ∀ w, AllF st.f w -> ∀ j u, ch.cs[j]? = some u -> ∃ a, A = some a /\ w.cell? (a.add j) = some u, fun _ => m, fun ch => ch.cs)
 | _ => none
def zil (T : Tab) (st : St) (t : TypeId) (x y : Operand) : Sig := match get t T.u with
 | some (.slice E) => match get E T.ty, ev st.s x, ev st.s y with
  | some ti, some u, some v => match znq st ti.size u, zaae st ti.size v with
   | some (old, n, xs, ez), some (ob, m, news) => .grow (fun c => ob c /\ 0 < ti.size /\ (ez = none \/ ez = some (E, ti.size)) /\ n + m c <= maxLen /\ (n + m c) * ti.bytes <= 140737488355328) old E ti.size (fun c => n + m c) (fun c => xs ++ news c)
   | _, _ => .bad
  | _, _, _ => .bad
 | _ => .bad
def zn8 (st : St) (f : Operand) (args : List Operand) : Sig := match ev st.s f, evs st.s args with
 | some (.one (.fn g fs cs)), some vs => .call g (fs.map Cap.sv ++ vs ++ cs.map Cap.sv)
 | some (.one (.v (.func (.func g) fs cs))), some vs => .call g (fs.toList.map (fun x => .one (.v x)) ++ vs ++ cs.toList.map (fun x => .one (.v x)))
 | _, _ => .bad
theorem zxe (a b : ByteArray) : (a.toList == b.toList) = decide (a = b) := by
 rw [Bool.eq_iff_iff]
 simp only [beq_iff_eq, decide_eq_true_eq]
 constructor
 ·intro h
  rw [ByteArray.toList_eq, ByteArray.toList_eq] at h
  cases a; cases b
  simp only at h
  congr 1
  exact Array.toList_inj.1 h
 ·rintro rfl; rfl
section
variable {P : Program} {T : Tab} {cx : Cx} {e : Env} {st : St} {o : Oper} {a : Act} {w : World}
theorem zb9 {op : BinOp} {t yt : TypeId} {x y : Operand} {u v r : Value} (ho : o.op = .binOp op t x y yt) (hx : a.eval x = u) (hy : a.eval y = v)
  (h : (do eqGuard op t x y u v; binOp op t u v : Sem Value).run P w = .ok r w) : (execOp a.eval o).run P w = .ok (.value r) w := by
 simp only [execOp, ho, hx, hy]
 rw [Sem.run_bind, h]
 rfl
theorem zgv {op : BinOp} {t : TypeId} {x y : Operand} {u v : Value} (h1 : ∀ x, u ≠ .agg x) (h2 : u ≠ .nilIface) : (eqGuard op t x y u v).run P w = .ok () w := by
 unfold eqGuard
 cases op <;> simp <;> cases u <;> simp_all
theorem zul (hT : T.Ok P) (hS : Sat cx e st a w) {op : BinOp} {t yt : TypeId} {x y : Operand} (ho : o.op = .binOp op t x y yt) : zcy P e st o a w (ztw T st op t x y) := by
 unfold ztw
 split
 ·rename_i k i k' j hx hy
  have hx2 : a.eval x = .int k i := (hS.ev hx).2
  have hy2 : a.eval y = .int k' j := (hS.ev hy).2
  have hg : ∀ (op : BinOp), (eqGuard op t x y (.int k i) (.int k' j)).run P w = .ok () w := fun op => zgv (by simp) (by simp)
  split
  ·rintro c rfl
   refine ⟨trivial, zb9 ho hx2 hy2 ?_⟩
   rw [Sem.run_bind, hg]
   simp only [Result.andThen_ok, binOp, Op.shift]
   rw [if_neg (by omega)]
   simp [SV.real, SA.real]
  ·rintro c rfl
   refine ⟨trivial, zb9 ho hx2 hy2 ?_⟩
   rw [Sem.run_bind, hg]
   simp only [Result.andThen_ok, binOp, Op.shift]
   rw [if_neg (by omega)]
   simp [SV.real, SA.real]
  ·rintro c ⟨hj, rfl⟩
   refine ⟨trivial, zb9 ho hx2 hy2 ?_⟩
   rw [Sem.run_bind, hg]
   simp [binOp, Op.intDiv, hj, SV.real, SA.real]
  ·rintro c ⟨hj, rfl⟩
   refine ⟨trivial, zb9 ho hx2 hy2 ?_⟩
   rw [Sem.run_bind, hg]
   simp [binOp, Op.intDiv, hj, SV.real, SA.real]
  ·rename_i h1 h2 h3 h4
   split
   ·rename_i hk
    obtain rfl : k = k' := of_decide_eq_true hk
    unfold detV
    split
    ·rename_i v hv
     refine ⟨trivial, zb9 ho hx2 hy2 ?_⟩
     rw [Sem.run_bind, hg]
     cases op <;> simp [binI] at hv h1 h2 h3 h4 <;> subst hv <;> simp [binOp, Op.intArith, Op.intBits, Op.intCmp, SV.real, SA.real, bne] <;> rfl
    ·trivial
   ·trivial
 ·rename_i p q hx hy
  have hx2 : a.eval x = .bool p := (hS.ev hx).2
  have hy2 : a.eval y = .bool q := (hS.ev hy).2
  split
  ·rename_i hu
   have hu := hT.u _ (zak hu)
   simp only at hu
   have hg : (eqGuard op t x y (.bool p) (.bool q)).run P w = .ok () w := zgv (by simp) (by simp)
   unfold detB isEq
   cases op <;> simp only <;> first | trivial | skip
   ·refine ⟨trivial, zb9 ho hx2 hy2 ?_⟩
    rw [Sem.run_bind, hg, Result.andThen_ok, run_eql_bool w t p q hu]
    rfl
   ·refine ⟨trivial, zb9 ho hx2 hy2 ?_⟩
    rw [Sem.run_bind, hg, Result.andThen_ok, run_neq_bool w t p q hu]
    rfl
  ·trivial
 ·rename_i p q hx hy
  have hx2 : a.eval x = .string p := (hS.ev hx).2
  have hy2 : a.eval y = .string q := (hS.ev hy).2
  have hg : ∀ (op : BinOp), (eqGuard op t x y (.string p) (.string q)).run P w = .ok () w := fun op => zgv (by simp) (by simp)
  split
  ·intro c hc
   refine ⟨trivial, zb9 ho hx2 hy2 ?_⟩
   rw [Sem.run_bind, hg]
   have hm : ¬ (((p.size + q.size : Nat) : Int) > IntKind.i64.max) := by
    show ¬ (((p.size + q.size : Nat) : Int) > 9223372036854775807)
    omega
   simp only [Result.andThen_ok, binOp, Op.stringOp]
   rw [if_neg hm]
   simp [SV.real, SA.real]
  ·rename_i h1
   unfold detV
   split
   ·rename_i v hv
    refine ⟨trivial, zb9 ho hx2 hy2 ?_⟩
    rw [Sem.run_bind, hg]
    cases op <;> simp [binS] at hv h1 <;> subst hv <;> simp [binOp, Op.stringOp, SV.real, SA.real, zxe]
   ·trivial
 ·rename_i A n c hx hy
  have hx2 : a.eval x = .slice A n c := (hS.ev hx).2
  have hy2 : a.eval y = .slice none 0 0 := (hS.ev hy).2
  split
  ·rename_i E hu
   have hu := hT.u _ (zak hu)
   simp only at hu
   have hg : (eqGuard op t x y (.slice A n c) (.slice none 0 0)).run P w = .ok () w := zgv (by simp) (by simp)
   have he : (Op.equal t (.slice A n c) (.slice none 0 0)).run P w = .ok A.isNone w := run_equal_slice_nil w t E A n c hu
   unfold detB isEq
   cases op <;> simp only <;> first | trivial | skip
   ·refine ⟨trivial, zb9 ho hx2 hy2 ?_⟩
    rw [Sem.run_bind, hg, Result.andThen_ok]
    simp [binOp, he, SV.real, SA.real]
   ·refine ⟨trivial, zb9 ho hx2 hy2 ?_⟩
    rw [Sem.run_bind, hg, Result.andThen_ok]
    simp [binOp, he, SV.real, SA.real]
  ·trivial
 ·rename_i hx hy
  have hx2 : a.eval x = .nilIface := (hS.ev hx).2
  have hy2 : a.eval y = .nilIface := (hS.ev hy).2
  split
  ·rename_i ms hu hcst
   have hu := hT.u _ (zak hu)
   simp only at hu
   have hg : ∀ op, (eqGuard op t x y .nilIface .nilIface).run P w = .ok () w := by
    intro op
    unfold eqGuard
    cases x <;> cases y <;> simp [zon] at hcst <;> cases op <;> rfl
   have he : ∀ d, (Op.equalIn (d + 1) t .nilIface .nilIface).run P w = .ok true w := fun d => by simp [Op.equalIn, run_underlying hu]
   unfold detB isEq
   cases op <;> simp only <;> first | trivial | skip
   ·refine ⟨trivial, zb9 ho hx2 hy2 ?_⟩
    rw [Sem.run_bind, hg, Result.andThen_ok]
    simp only [binOp]
    simp [Op.equal, Op.maxDepth, he 9999, SV.real, SA.real]
   ·refine ⟨trivial, zb9 ho hx2 hy2 ?_⟩
    rw [Sem.run_bind, hg, Result.andThen_ok]
    simp only [binOp]
    simp [Op.equal, Op.maxDepth, he 9999, SV.real, SA.real]
  ·trivial
 ·rename_i ta va hx hy
  have hx2 : a.eval x = .iface ta va := (hS.ev hx).2
  have hy2 : a.eval y = .nilIface := (hS.ev hy).2
  split
  ·rename_i ms hu
   have hu := hT.u _ (zak hu)
   simp only at hu
   have hg : ∀ op, (eqGuard op t x y (.iface ta va) .nilIface).run P w = .ok () w := fun op => zgv (by simp) (by simp)
   have he : ∀ d, (Op.equalIn (d + 1) t (.iface ta va) .nilIface).run P w = .ok false w := fun d => by simp [Op.equalIn, run_underlying hu]
   unfold detB isEq
   cases op <;> simp only <;> first | trivial | skip
   ·refine ⟨trivial, zb9 ho hx2 hy2 ?_⟩
    rw [Sem.run_bind, hg, Result.andThen_ok]
    simp only [binOp]
    simp [Op.equal, Op.maxDepth, he 9999, SV.real, SA.real]
   ·refine ⟨trivial, zb9 ho hx2 hy2 ?_⟩
    rw [Sem.run_bind, hg, Result.andThen_ok]
    simp only [binOp]
    simp [Op.equal, Op.maxDepth, he 9999, SV.real, SA.real]
  ·trivial
 ·rename_i u v hx hy
  split
  ·rename_i n xs ys hq hxs hys
   split
   ·rename_i xs' ys' hxs' hys'
    split
    ·rename_i r hlen hr
     have hlen : xs'.length = n := by rw [<- Nat.beq_eq]; exact hlen
     have hx2 : a.eval x = .agg xs'.toArray := by
      rw [(hS.ev hx).2, (zgz hxs e (hS.ev hx).1).1, zbn e hxs']
     have hy2 : a.eval y = .agg ys'.toArray := by
      rw [(hS.ev hy).2, (zgz hys e (hS.ev hy).1).1, zbn e hys']
     obtain ⟨h1, h2⟩ := hT.eqs _ (zak hq) xs' ys' r w x y hlen hr
     unfold detB isEq
     cases op <;> simp only <;> first | trivial | skip
     ·exact ⟨trivial, zb9 ho hx2 hy2 h1⟩
     ·exact ⟨trivial, zb9 ho hx2 hy2 h2⟩
    ·trivial
   ·trivial
  ·trivial
 ·trivial
theorem zvo (hS : Sat cx e st a w) {op : UnOp} {t : TypeId} {x : Operand} (ho : o.op = .unOp op t x) : zcy P e st o a w (zzs st op x) := by
 unfold zzs
 split
 ·rename_i b hx
  have hx2 : a.eval x = .bool b := (hS.ev hx).2
  exact ⟨trivial, by simp [execOp, ho, hx2, Op.unary, SV.real, SA.real]⟩
 ·rename_i k n hx
  have hx2 : a.eval x = .int k n := (hS.ev hx).2
  exact ⟨trivial, by simp [execOp, ho, hx2, Op.unary, Op.intArith, SV.real, SA.real]⟩
 ·trivial
theorem zcl {t : Nat} {d : TypeDesc} (hT : T.Ok P) (h : get t T.u = some d) (w : World) : (underlying t).run P w = .ok d w := run_underlying (hT.u _ (zak h)) w
theorem zr0 (hT : T.Ok P) (hS : Sat cx e st a w) {src dst : TypeId} {x : Operand} (ho : o.op = .convert src dst x) : zcy P e st o a w (zo2 T st src dst x) := by
 unfold zo2
 split
 ·rename_i d k' k n hs hd hx
  have hx2 : a.eval x = .int k n := (hS.ev hx).2
  refine ⟨trivial, ?_⟩
  simp only [execOp, ho, convert, Sem.run_bind, zcl hT hs, zcl hT hd, Result.andThen_ok, hx2, Conv.intToInt, Sem.run_pure]
  rfl
 ·rename_i s hs hd hx
  have hx2 : a.eval x = .string s := (hS.ev hx).2
  refine ⟨trivial, ?_⟩
  simp only [execOp, ho, convert, Sem.run_bind, zcl hT hs, zcl hT hd, Result.andThen_ok, hx2, Sem.run_pure]
  rfl
 ·rename_i E A n c hs hd hx
  have hx2 : a.eval x = .slice A n c := (hS.ev hx).2
  split
  ·rename_i hE
   rintro ch ⟨rfl, hb⟩
   refine ⟨trivial, ?_⟩
   have hb := hb w hS.mem.fact
   have hsz : ch.b.size = ch.b.data.toList.length := by simp
   have hr : (convert src dst (.slice A ch.b.size c)).run P w = .ok (.string ch.b) w := by
    cases A with
    | none =>
     have h0 : ch.b = ByteArray.empty := by
      cases hl : ch.b.data.toList with
      | nil =>
       cases hbb : ch.b with
       | mk dd =>
        rw [hbb] at hl
        simp only at hl
        rw [show dd = #[] from Array.toList_eq_nil_iff.1 hl]
        rfl
      | cons u r =>
       obtain ⟨ad, h1, _⟩ := hb 0 u (by rw [hl]; rfl)
       cases h1
     rw [run_convert_bytes_string w src dst E none _ c (hT.u _ (zak hs)) (hT.u _ (zak hE)) (hT.u _ (zak hd)), h0]
     simp [Conv.bytesToString]
    | some ad =>
     have := run_convert_bytes_back (P := P) w src dst E ad c ch.b.data.toList (hT.u _ (zak hs)) (hT.u _ (zak hE)) (hT.u _ (zak hd)) (fun j hj => by
      obtain ⟨ad', h1, h2⟩ := hb j _ (List.getElem?_eq_getElem hj)
      cases h1
      exact h2)
     rw [hsz, this]
   simp only [execOp, ho, Sem.run_bind, hx2, hr, Result.andThen_ok, Sem.run_pure]
   rfl
  ·trivial
 ·rename_i E i hs hd hx
  have hx2 : a.eval x = e.rv i := (hS.ev hx).2
  split
  ·rename_i E' z n xs hE hi
   rintro ch ⟨rfl, rfl, rfl⟩
   refine ⟨trivial, ?_⟩
   have hown := hS.mem.own _ _ _ _ _ hi
   have hsz : ch.b.size = ch.b.data.toList.length := by simp
   have hr : (convert src dst (e.rv i)).run P w = .ok (.string ch.b) w := by
    by_cases hn : 0 < ch.b.size
    ·obtain ⟨g, hg, hg2, hc⟩ := zwl hS.mem hi hn
     rw [Env.rv, hg, hg2]
     have := run_convert_bytes_back (P := P) w src dst E ⟨g, 0, none⟩ (e.row i).2.2 ch.b.data.toList (hT.u _ (zak hs)) (hT.u _ (zak hE)) (hT.u _ (zak hd)) (fun j hj => by
      rw [zbl]
      simp only [Nat.zero_add]
      exact hc j _ (by rw [List.getElem?_map, List.getElem?_eq_getElem hj]; rfl))
     rw [hsz, this]
    ·have h0 : ch.b = ByteArray.empty := by
      have : ch.b.data.toList.length = 0 := by omega
      have h1 := List.eq_nil_of_length_eq_zero this
      cases hbb : ch.b with
      | mk dd =>
       rw [hbb] at h1
       simp only at h1
       rw [show dd = #[] from Array.toList_eq_nil_iff.1 h1]
       rfl
     rw [h0]
     rw [h0] at hown
     rcases hown.2 with ⟨hv, _⟩ | ⟨g, cap, cur, hv, _⟩
     ·rw [hv, run_convert_bytes_string w src dst E none _ 0 (hT.u _ (zak hs)) (hT.u _ (zak hE)) (hT.u _ (zak hd))]
      simp [Conv.bytesToString]
     ·rw [hv]
      have := run_convert_bytes_back (P := P) w src dst E ⟨g, 0, none⟩ cap [] (hT.u _ (zak hs)) (hT.u _ (zak hE)) (hT.u _ (zak hd)) (fun j hj => by simp at hj)
      exact this
   simp only [execOp, ho, Sem.run_bind, hx2, hr, Result.andThen_ok, Sem.run_pure]
   rfl
  ·trivial
 ·rename_i E s hs hd hx
  have hx2 : a.eval x = .string s := (hS.ev hx).2
  split
  ·rename_i hE
   intro H hH
   have hr := run_bytes_of_string (P := P) w src dst E s (hT.u _ (zak hs)) (hT.u _ (zak hd)) (hT.u _ (zak hE))
   refine ⟨.slice (some ⟨w.heap.size, 0, none⟩) s.size (grownCap w s.size 0 E), (w.drew.alloc (.cells (bytesRow s (grownCap w s.size 0 E)) E ((bytesRow s (grownCap w s.size 0 E)).size, (bytesRow s (grownCap w s.size 0 E)).size + 1))), by simp only [execOp, ho, Sem.run_bind, hx2, hr, Result.andThen_ok, Sem.run_pure], ?_, ⟨_, _, rfl⟩, fun u => Up.ex fun A => Up.ex fun c => Up.and (Up.pure _) (zi4.up _ _), ?_⟩
   ·exact (Below.refl _ w).drew.alloc (Nat.le_refl _) _
   ·refine ⟨_, _, rfl, fun j b hj => ⟨_, rfl, ?_⟩⟩
    have hcell : (hide H (w.drew.alloc (.cells (bytesRow s (grownCap w s.size 0 E)) E ((bytesRow s (grownCap w s.size 0 E)).size, (bytesRow s (grownCap w s.size 0 E)).size + 1)))).heap[w.heap.size]? = some (.cells (bytesRow s (grownCap w s.size 0 E)) E ((bytesRow s (grownCap w s.size 0 E)).size, (bytesRow s (grownCap w s.size 0 E)).size + 1)) := by
     rw [zcx]
     have : (w.drew.alloc (.cells (bytesRow s (grownCap w s.size 0 E)) E ((bytesRow s (grownCap w s.size 0 E)).size, (bytesRow s (grownCap w s.size 0 E)).size + 1))).heap[w.heap.size]? = some (.cells (bytesRow s (grownCap w s.size 0 E)) E ((bytesRow s (grownCap w s.size 0 E)).size, (bytesRow s (grownCap w s.size 0 E)).size + 1)) := heap_alloc_new w.drew _
     rw [this]
     have hno : ¬ H w.heap.size := fun h => Nat.lt_irrefl _ (hH _ h)
     simp [hno]
    rw [zbl]
    rw [cell_of_row _ w.heap.size (0 + j) _ _ _ hcell]
    have hjl := (List.getElem?_eq_some_iff.1 hj).1
    simp only [Nat.zero_add, bytesRow]
    have hjl2 : j < s.data.size := by simpa using hjl
    rw [Array.getElem?_append_left (by simpa using hjl2)]
    simp only [Array.getElem?_map, Option.map_eq_some_iff]
    exact ⟨b, by rw [<- Array.getElem?_toList]; exact hj, rfl⟩
  ·trivial
 ·trivial
theorem zk0 (hS : Sat cx e st a w) {x : Operand} {j : Nat} (ho : o.op = .extract x j) : zcy P e st o a w (zhs st x j) := by
 unfold zhs
 split
 ·rename_i xs hx
  obtain ⟨h1, h2⟩ := hS.ev hx
  have h3 : a.eval x = .tuple (xs.map (TV.real e)).toArray := h2
  split
  ·rename_i y hj
   have hl := h1 _ (List.mem_of_getElem? hj)
   refine ⟨hl, ?_⟩
   simp [execOp, ho, h3, Instr.extract, hj, TV.real, SV.real]
  ·rename_i ys hj
   have hl := h1 _ (List.mem_of_getElem? hj)
   refine ⟨hl, ?_⟩
   simp [execOp, ho, h3, Instr.extract, hj, TV.real, SV.real]
  ·trivial
 ·rename_i vs hx
  have h3 : a.eval x = .tuple vs := (hS.ev hx).2
  split
  ·rename_i v hj
   refine ⟨trivial, ?_⟩
   rw [Array.getElem?_toList] at hj
   simp [execOp, ho, h3, Instr.extract, hj, SV.real, SA.real]
  ·trivial
 ·trivial
theorem zch {α β γ : Type} {f : α -> Option β} (g : α -> γ) (h : β -> γ) (hf : ∀ x y, f x = some y -> g x = h y) : ∀ {l : List α} {ys : List β}, za1 f l = some ys -> l.map g = ys.map h
 | [], ys, hl => by cases hl; rfl
 | x :: r, ys, hl => by
  simp only [za1] at hl
  split at hl
  ·rename_i y ys' h1 h2
   cases hl
   simp [hf x y h1, zch g h hf h2]
  ·cases hl
theorem zeh {α β : Type} {f : α -> Option β} {q : β -> Prop} (hf : ∀ x y, f x = some y -> q y) : ∀ {l : List α} {ys : List β}, za1 f l = some ys -> ∀ y ∈ ys, q y
 | [], ys, hl => by cases hl; simp
 | x :: r, ys, hl => by
  simp only [za1] at hl
  split at hl
  ·rename_i y ys' h1 h2
   cases hl
   intro z hz
   rcases List.mem_cons.1 hz with rfl | hz
   ·exact hf x _ h1
   ·exact zeh hf h2 z hz
  ·cases hl
theorem zsq (hS : Sat cx e st a w) {l : List Operand} {vs : List SV} (h : evs st.s l = some vs) : l.map a.eval = vs.map (SV.real e) /\ ∀ v ∈ vs, v.lt st.k :=
 ⟨zch _ _ (fun x y hy => (hS.ev hy).2) h, zeh (fun x y hy => (hS.ev hy).1) h⟩
theorem zw4 {v : SV} {c : Cap} (h : zvu v = some c) (e : Env) {k : Nat} (hl : v.lt k) : v.real e = c.real e /\ c.lt k := by
 unfold zvu at h
 split at h
 ·cases h; exact ⟨rfl, hl⟩
 ·cases h; exact ⟨rfl, trivial⟩
 ·cases h
theorem zr9 (hS : Sat cx e st a w) {l : List Operand} {cs : List Cap} (h : caps st.s l = some cs) : l.map a.eval = cs.map (Cap.real e) /\ ∀ c ∈ cs, c.lt st.k := by
 unfold caps at h
 split at h
 ·rename_i vs hvs
  obtain ⟨h1, h2⟩ := zsq hS hvs
  have key : ∀ {vs : List SV} {cs : List Cap}, (∀ v ∈ vs, v.lt st.k) -> za1 zvu vs = some cs -> vs.map (SV.real e) = cs.map (Cap.real e) /\ ∀ c ∈ cs, c.lt st.k := by
   intro vs
   induction vs with
   | nil => intro cs _ h; cases h; simp
   | cons v r ih =>
    intro cs hv h
    simp only [za1] at h
    split at h
    ·rename_i y ys h3 h4
     cases h
     obtain ⟨h5, h6⟩ := zw4 h3 e (hv v List.mem_cons_self)
     obtain ⟨h7, h8⟩ := ih (fun v hm => hv v (List.mem_cons_of_mem _ hm)) h4
     refine ⟨by simp [h5, h7], fun c hc => ?_⟩
     rcases List.mem_cons.1 hc with rfl | hc
     ·exact h6
     ·exact h8 c hc
    ·cases h
  obtain ⟨h3, h4⟩ := key h2 h
  exact ⟨h1.trans h3, h4⟩
 ·cases h
theorem zrq (hS : Sat cx e st a w) {f : Fn} {fs cs : Array Operand} (ho : o.op = .makeFunc f fs cs) : zcy P e st o a w (zoy st f fs.toList cs.toList) := by
 unfold zoy
 split
 ·rename_i g
  split
  ·rename_i fa ca h1 h2
   obtain ⟨h3, h4⟩ := zr9 hS h1
   obtain ⟨h5, h6⟩ := zr9 hS h2
   refine ⟨⟨h4, h6⟩, ?_⟩
   have e1 : fs.map a.eval = (fa.map (Cap.real e)).toArray := Array.ext' (by rw [Array.toList_map, h3])
   have e2 : cs.map a.eval = (ca.map (Cap.real e)).toArray := Array.ext' (by rw [Array.toList_map, h5])
   simp [execOp, ho, Instr.makeFunc, e1, e2, SV.real, SA.real]
  ·trivial
 ·trivial
theorem zo4 (hT : T.Ok P) (hS : Sat cx e st a w) {t : TypeId} {x : Operand} (ho : o.op = .makeInterface t x) : zcy P e st o a w (zl6 T st t x) := by
 unfold zl6
 split
 ·rename_i fs _ v hf hx
  split
  ·rename_i xs hxs
   split
   ·rename_i vs hvs
    obtain ⟨h1, h2⟩ := hS.ev hx
    have hx2 : a.eval x = .agg vs.toArray := by rw [h2, (zgz hxs e h1).1, zbn e hvs]
    obtain ⟨gs, hg, _⟩ := hT.fld _ (zak hf)
    refine ⟨trivial, ?_⟩
    simp only [execOp, ho, Instr.makeInterface, Sem.run_bind, run_underlying hg, Result.andThen_ok, hx2, Sem.run_pure]
    rfl
   ·trivial
  ·trivial
 ·rename_i d v hf hd hx
  split
  ·rename_i hn
   have hx2 : a.eval x = v := (hS.ev hx).2
   refine ⟨trivial, ?_⟩
   simp only [execOp, ho, Instr.makeInterface, Sem.run_bind, zcl hT hd, Result.andThen_ok, hx2]
   cases d <;> first | (simp [zkk] at hn; done) | rfl
  ·trivial
 ·trivial
theorem zva (hT : T.Ok P) (hS : Sat cx e st a w) {t : TypeId} {x : Operand} (ho : o.op = .call { callee := .builtin .len, args := #[x], argTypes := #[t] }) : zcy P e st o a w (zuz T st t x) := by
 have key : ∀ {v r : Value}, a.eval x = v -> (Builtin.len_ #[t] o.type #[v]).run P w = .ok r w -> (execOp a.eval o).run P w = .ok (.value r) w := by
  intro v r hv hr
  simp only [execOp, ho, resolve, invoke, builtin, Sem.run_bind, Sem.run_pure, Result.andThen_ok, List.map_toArray, List.map_cons, List.map_nil, hv, hr]
 have hsl : ∀ {E : TypeId} {A : Option Addr} {n c : Nat}, get t T.u = some (.slice E) -> (Builtin.len_ #[t] o.type #[.slice A n c]).run P w = .ok (.int .i64 n) w := by
  intro E A n c hu
  simp [Builtin.len_, zcl hT hu, goInt]
 unfold zuz
 split
 ·rename_i s hu hx
  refine ⟨trivial, key (hS.ev hx).2 ?_⟩
  simp [Builtin.len_, zcl hT hu, SV.real, SA.real, goInt]
 ·rename_i E A n c hu hx
  exact ⟨trivial, key (hS.ev hx).2 (hsl hu)⟩
 ·rename_i E i off n c hu hx
  exact ⟨trivial, key (hS.ev hx).2 (hsl hu)⟩
 ·rename_i E i hu hx
  split
  ·rename_i E' z n xs hi
   refine ⟨trivial, key (hS.ev hx).2 ?_⟩
   have hr : (e.row i).2.1 = n := by
    have h1 := hS.mem.own _ _ _ _ _ hi
    rcases h1.2 with ⟨hv, h0⟩ | ⟨g, cap, cur, hv, _⟩
    ·simp only [Env.rv, Value.slice.injEq] at hv
     rw [hv.2.1, h0]
    ·simp only [Env.rv, Value.slice.injEq] at hv
     exact hv.2.1
   show (Builtin.len_ #[t] o.type #[e.rv i]).run P w = _
   rw [Env.rv, hr]
   exact hsl hu
  ·trivial
 ·trivial
theorem zuq (hS : Sat cx e st a w) {x y : Operand} {ts : Array TypeId} (ho : o.op = .call { callee := .builtin .min, args := #[x, y], argTypes := ts }) : zcy P e st o a w (zti st x y) := by
 unfold zti
 split
 ·rename_i k i k' j hx hy
  have hx2 : a.eval x = .int k i := (hS.ev hx).2
  have hy2 : a.eval y = .int k' j := (hS.ev hy).2
  refine ⟨trivial, ?_⟩
  simp only [execOp, ho, resolve, invoke, builtin, Sem.run_bind, Sem.run_pure, Result.andThen_ok, List.map_toArray, List.map_cons, List.map_nil, hx2, hy2, run_min_int2]
  rfl
 ·trivial
theorem zt2 (hS : Sat cx e st a w) {x y : Operand} {ts : Array TypeId} (ho : o.op = .call { callee := .builtin .max, args := #[x, y], argTypes := ts }) : zcy P e st o a w (ztz st x y) := by
 unfold ztz
 split
 ·rename_i k i k' j hx hy
  have hx2 : a.eval x = .int k i := (hS.ev hx).2
  have hy2 : a.eval y = .int k' j := (hS.ev hy).2
  refine ⟨trivial, ?_⟩
  simp only [execOp, ho, resolve, invoke, builtin, Sem.run_bind, Sem.run_pure, Result.andThen_ok, List.map_toArray, List.map_cons, List.map_nil, hx2, hy2, run_max_int2]
  rfl
 ·trivial
theorem zn3 (e : Env) : ∀ c : Cap, c.sv.real e = c.real e
 | .p _ => rfl
 | .v _ => rfl
theorem zmc {k : Nat} : ∀ {c : Cap}, c.lt k -> c.sv.lt k
 | .p _, h => h
 | .v _, _ => trivial
theorem zq7 (hS : Sat cx e st a w) {f : Operand} {args : Array Operand} {ts : Array TypeId} (ho : o.op = .call { callee := .value f, args := args, argTypes := ts }) : zcy P e st o a w (zn8 st f args.toList) := by
 unfold zn8
 split
 ·rename_i g fs cs vs hf hv
  obtain ⟨h1, h2⟩ := hS.ev hf
  obtain ⟨h3, h4⟩ := zsq hS hv
  have hf2 : a.eval f = .func (.func g) (fs.map (Cap.real e)).toArray (cs.map (Cap.real e)).toArray := h2
  refine ⟨fun y hy => ?_, ?_⟩
  ·rcases List.mem_append.1 hy with hy | hy
   ·rcases List.mem_append.1 hy with hy | hy
    ·obtain ⟨c, hc, rfl⟩ := List.mem_map.1 hy
     exact zmc (h1.1 c hc)
    ·exact h4 y hy
   ·obtain ⟨c, hc, rfl⟩ := List.mem_map.1 hy
    exact zmc (h1.2 c hc)
  ·rintro ⟨fn, hfn, hname, hbody⟩
   have e1 : args.map a.eval = (vs.map (SV.real e)).toArray := Array.ext' (by rw [Array.toList_map, h3])
   have e2 : ∀ l : List Cap, (l.map Cap.sv).map (SV.real e) = l.map (Cap.real e) := fun l => by rw [List.map_map]; exact List.map_congr_left fun c _ => zn3 e c
   simp only [execOp, ho, resolve, Sem.run_bind, Deferred.ofValue, hf2, Sem.run_pure, Result.andThen_ok, invoke, callFunc, run_program, hfn, hname, hbody, Bool.false_eq_true, if_false, e1]
   simp only [List.map_append, e2]
   simp
 ·rename_i g fs cs vs hf hv
  obtain ⟨h1, h2⟩ := hS.ev hf
  obtain ⟨h3, h4⟩ := zsq hS hv
  have hf2 : a.eval f = .func (.func g) fs cs := h2
  refine ⟨fun y hy => ?_, ?_⟩
  ·rcases List.mem_append.1 hy with hy | hy
   ·rcases List.mem_append.1 hy with hy | hy
    ·obtain ⟨c, hc, rfl⟩ := List.mem_map.1 hy
     exact trivial
    ·exact h4 y hy
   ·obtain ⟨c, hc, rfl⟩ := List.mem_map.1 hy
    exact trivial
  ·rintro ⟨fn, hfn, hname, hbody⟩
   have e1 : args.map a.eval = (vs.map (SV.real e)).toArray := Array.ext' (by rw [Array.toList_map, h3])
   have e2 : ∀ l : List Value, (l.map fun x => SV.one (.v x)).map (SV.real e) = l := fun l => by
    rw [List.map_map]
    exact (List.map_congr_left fun c _ => rfl).trans (List.map_id _)
   simp only [execOp, ho, resolve, Sem.run_bind, Deferred.ofValue, hf2, Sem.run_pure, Result.andThen_ok, invoke, callFunc, run_program, hfn, hname, hbody, Bool.false_eq_true, if_false, e1]
   simp only [List.map_append, e2]
   simp
 ·trivial
theorem zmb (hT : T.Ok P) (hS : Sat cx e st a w) {t : TypeId} {x y : Operand} (ho : o.op = .call { callee := .builtin .append, args := #[x, y], argTypes := #[t, t] }) : zcy P e st o a w (zil T st t x y) := by
 unfold zil
 split
 ·rename_i E hu
  have hu := hT.u _ (zak hu)
  simp only at hu
  split
  ·rename_i ti u v hE hx hy
   split
   ·rename_i old n xs ez ob m news hbase hsrc
    have hx2 := (hS.ev hx).2
    have hy2 := (hS.ev hy).2
    obtain ⟨fi, hi1, hi2, hi3, hi4⟩ := hT.info hE
    have hz := hT.cells hE
    have hzs : ti.val.cells.size = ti.size := by rw [hz]; simp [zje hT hE]
    -- the base
    have hb : (∀ i, old = some i -> i < st.k) /\ ((ez = none \/ ez = some (E, ti.size)) -> w.ownsRow 0 E ti.size (u.real e) n xs /\ (u.real e).ownBlock = ze2 e st.m old) := by
     unfold znq at hbase
     split at hbase
     ·cases hbase
      exact ⟨fun i hi => (by cases hi), fun _ => ⟨World.ownsRow_nil w 0 E ti.size, rfl⟩⟩
     ·rename_i i
      split at hbase
      ·rename_i E' z' n' xs' hi
       cases hbase
       refine ⟨fun j hj => by cases hj; exact (hS.mem.sc _ _ hi).1, fun hez => ?_⟩
       rcases hez with hez | hez
       ·cases hez
       ·cases hez
        exact ⟨hS.mem.own _ _ _ _ _ hi, by simp only [ze2, hi, Option.bind_some]; rfl⟩
      ·cases hbase
     ·rename_i i n' c'
      split at hbase
      ·rename_i E' cs hi
       split at hbase
       ·rename_i vs hvs hb1 hb2 hb3
        cases hbase
        have hnc : n = c' := by rw [<- Nat.beq_eq]; exact hb1
        subst hnc
        have hcl : cs.length = n * ti.size := by rw [<- Nat.beq_eq]; exact hb2
        have hle : n <= 1000000 := Nat.le_of_ble_eq_true hb3
        refine ⟨fun j hj => by cases hj; exact (hS.mem.sc _ _ hi).1, fun hez => ?_⟩
        rcases hez with hez | hez
        ·cases hez
        ·cases hez
         have hbk := hS.mem.cells _ _ _ hi
         have hpl := zbn e hvs
         rw [hpl] at hbk
         have hvl : xs.length = n * ti.size := by rw [<- hpl, zcc]; exact hcl
         refine ⟨⟨hvl, .inr ⟨e.blk i, n, xs.toArray, rfl, Nat.zero_le _, hbk, Nat.le_refl _, by simp only [maxLen]; omega, by simpa using hvl, ?_⟩⟩, by simp only [ze2, hi, Option.bind_some]; rfl⟩
         rw [<- hvl]
         simp
       ·cases hbase
      ·cases hbase
     ·cases hbase
    refine ⟨hb.1, ?_⟩
    rintro c ⟨hob, hpos, hez, hmax, hbytes⟩
    obtain ⟨hown, hblk⟩ := hb.2 hez
    -- the source
    have hs : (∃ ad mm cc, v.real e = .slice (some ad) mm cc /\ mm = m c /\ (news c).length = m c * ti.size /\ (∀ j u, (news c)[j]? = some u -> w.cell? (ad.add j) = some u) /\ ∀ u ∈ news c, u.oneCell' = true) \/ (v.real e = .slice none 0 0 /\ m c = 0 /\ news c = []) := by
     unfold zaae at hsrc
     split at hsrc
     ·rename_i j off mm cc
      split at hsrc
      ·rename_i t' cs hj
       split at hsrc
       ·rename_i vs hp hle
        cases hsrc
        have hb2 := hS.mem.cells _ _ _ hj
        have hpl := zbn e hp
        have hle := Nat.le_of_ble_eq_true hle
        refine .inl ⟨_, _, _, rfl, rfl, ?_, fun l u hl => ?_, fun u hu2 => ?_⟩
        ·rw [<- hpl, zcc]; simp; omega
        ·rw [zbl, hb2.cell]
         rw [<- hpl, zhh] at hl
         simp only [List.getElem?_take, List.getElem?_drop] at hl
         split at hl
         ·simpa [zhh] using hl
         ·simp at hl
        ·rw [<- hpl] at hu2
         obtain ⟨q, hq, rfl⟩ := List.mem_map.1 hu2
         exact zqp e ((hS.mem.sc _ _ hj).2 q (List.mem_of_mem_drop (List.mem_of_mem_take hq)))
       ·cases hsrc
      ·cases hsrc
     ·rename_i A mm cc
      cases hsrc
      obtain ⟨h1, h2, h3, h4⟩ := hob
      cases A with
      | some ad =>
       refine .inl ⟨ad, mm, cc, rfl, rfl, h1, fun j u hj => ?_, h2⟩
       obtain ⟨ad', h5, h6⟩ := h4 w hS.mem.fact j u hj
       cases h5
       exact h6
      | none =>
       obtain ⟨h5, h6⟩ := h3 rfl
       subst h5 h6
       exact .inr ⟨rfl, rfl, List.eq_nil_of_length_eq_zero (by rw [h1, Nat.zero_mul])⟩
     ·cases hsrc
    have hend : ∀ {v' : Value} {w' : World}, (Builtin.append_ #[t, t] o.type #[u.real e, v.real e]).run P w = .ok v' w' -> w'.ownsRow 0 E ti.size v' (n + m c) (xs ++ news c) -> w.grownBy w' (u.real e).ownBlock -> (∀ g, v'.ownBlock = some g -> w.heap.size <= g \/ (u.real e).ownBlock = some g) ->
      ∃ v w', (execOp a.eval o).run P w = .ok (.value (.slice v.1 v.2.1 v.2.2)) w' /\ zt5 P e st.m w w' v old E ti.size (n + m c) (xs ++ news c) := by
     intro v' w' hr h1 h2 h3
     have hv' : ∃ q : Option Addr × Nat × Nat, v' = .slice q.1 q.2.1 q.2.2 := by
      rcases h1.2 with ⟨rfl, _⟩ | ⟨g, cap, cur, rfl, _⟩
      ·exact ⟨(none, 0, 0), rfl⟩
      ·exact ⟨(some ⟨g, 0, none⟩, _, cap), rfl⟩
     obtain ⟨q, rfl⟩ := hv'
     refine ⟨q, w', ?_, ?_, h1, ?_⟩
     ·simp only [execOp, ho, resolve, invoke, builtin, Sem.run_bind, Sem.run_pure, Result.andThen_ok, List.map_toArray, List.map_cons, List.map_nil, hx2, hy2, hr]
     ·rw [<- hblk]; exact h2
     ·rw [<- hblk]; exact h3
    rcases hs with ⟨ad, mm, cc, hv, rfl, hl, hnews, hone⟩ | ⟨hv, hm0, hn0⟩
    ·obtain ⟨v', w', hr, h1, h2, h3⟩ := run_append_own (P := P) w 0 t o.type E fi ti.val ti.size ti.bytes hu hi1 hi4 hi2 hi3 hzs hpos (u.real e) n xs hown ad (m c) cc (news c) hl hnews hone hmax hbytes (Nat.zero_le _)
     rw [<- hv] at hr
     refine hend hr h1 h2 fun g hg => ?_
     rw [hv] at hr
     rcases hown.2 with ⟨hu0, hn0⟩ | ⟨g0, cap, cur, hu0, _, hh, hnc, hcm, hcs, htake⟩
     ·have hown2 : w.ownsRow w.heap.size E ti.size (u.real e) n xs := by
       have hx0 : xs = [] := List.eq_nil_of_length_eq_zero (by rw [hown.1, hn0, Nat.zero_mul])
       rw [hu0, hx0, hn0]
       exact World.ownsRow_nil w _ E ti.size
      obtain ⟨v2, w2, hr2, h12, _, _⟩ := run_append_own (P := P) w w.heap.size t o.type E fi ti.val ti.size ti.bytes hu hi1 hi4 hi2 hi3 hzs hpos (u.real e) n xs hown2 ad (m c) cc (news c) hl hnews hone hmax hbytes (Nat.le_refl _)
      rw [hr] at hr2
      cases hr2
      exact .inl (h12.lt g hg).1
     ·by_cases hroom : n + m c <= cap
      ·have hfit : n * fi.size + (news c).length <= cur.size := by rw [hl, hcs, hi2, <- Nat.add_mul]; exact Nat.mul_le_mul_right _ hroom
       have hr2 := run_append_room (P := P) w t o.type E fi hu hi1 g0 n cap cur hh ad (m c) cc (news c) (by rw [hl, hi2]) hnews hone hroom hfit
       rw [hu0] at hr
       rw [hr] at hr2
       cases hr2
       rw [hu0]
       exact .inr hg
      ·have holds : ∀ j u, xs[j]? = some u -> w.cell? ((⟨g0, 0, none⟩ : Addr).add j) = some u := by
        rw [hu0] at hown
        exact hown.cells (g := g0) rfl
       have hr2 := run_append_grow (P := P) w t o.type E fi ti.val hu hi1 hi4 ⟨g0, 0, none⟩ n cap xs (by rw [hown.1, hi2]) holds ad (m c) cc (news c) (by rw [hl, hi2]) hnews (by omega) (by simp only [maxLen] at hmax; omega) (growslice_fits (by omega) (by rw [hi3]; exact hbytes))
       rw [hu0] at hr
       rw [hr] at hr2
       cases hr2
       cases hg
       exact .inl (Nat.le_refl _)
    ·have hr := run_append_owned_none (P := P) w 0 t o.type E fi ti.size hu hi1 (u.real e) n xs hown
     rw [<- hv] at hr
     refine hend hr (by rw [hm0, hn0]; simpa using hown) ⟨rfl, rfl, rfl, Nat.le_refl _, fun _ _ _ => rfl⟩ fun g hg => .inr hg
   ·trivial
  ·trivial
 ·trivial
end
end Go.Proofs.Sym
end
section
set_option linter.unusedVariables false
set_option linter.unusedSimpArgs false
namespace Go.Proofs.Sym
open Go.RowKit Go.Proofs.Base Go.Proofs.Mono Go.Lib
def zux (st : St) (x : Operand) : Sig := match ev st.s x with
 | some (.one (.p i o)) => .det (.one (.p i o))
 | some (.one (.v (.pointer (some a)))) => .det (.one (.v (.pointer (some a))))
 | some (.one (.fn f fs cs)) => .det (.one (.fn f fs cs))
 | _ => .bad
def zlo (s : List (Nat × SV)) : Option Operand -> Option (Option Int)
 | none => some none
 | some x => match ev s x with
  | some (.one (.v (.int _ i))) => some (some i)
  | _ => none
def Bd (o : Option Int) (k d : Nat) : Prop := match o with
 | some i => i = (k : Int)
 | none => k = d
def cutA (A : Option Addr) (cp n z : Nat) : Option Addr := match Nat.beq cp n with
 | true => A
 | false => A.map (·.add (n * z))
def zlj (T : Tab) (st : St) (t : TypeId) (x : Operand) (lo hi mx : Option Operand) : Sig := match mx, zlo st.s lo, zlo st.s hi with
 | none, some l, some h => match get t T.u, ev st.s x with
  | some .string, some (.one (.v (.string s))) => .pick (fun c => Bd l c.n 0 /\ Bd h c.m s.size /\ c.n <= c.m /\ c.m <= s.size) (fun c => .one (.v (.string (s.extract c.n c.m))))
  | some (.slice E), some (.one (.v (.slice A n cp))) => match get E T.ty with
   | some ti => .pick (fun c => Bd l c.n 0 /\ Bd h c.m n /\ c.n <= c.m /\ c.m <= cp) (fun c => .one (.v (.slice (cutA A cp c.n ti.size) (c.m - c.n) (cp - c.n))))
   | none => .bad
  | _, _ => .bad
 | _, _, _ => .bad
def zsh (ti : TyI) : Bool := match Nat.beq ti.size 1, Nat.beq ti.bytes 1, ti.agg, ti.zero with
 | true, true, false, [.int .u8 0] => true
 | _, _, _, _ => false
def zhi (T : Tab) (st : St) (t t' : TypeId) (x y : Operand) : Sig := match get t T.u, get t' T.u with
 | some (.slice E), some .string => match get E T.ty, ev st.s x, ev st.s y with
  | some ti, some u, some (.one (.v (.string s))) => match zsh ti, znq st ti.size u with
   | true, some (old, n, xs, ez) => .grow (fun _ => (ez = none \/ ez = some (E, 1)) /\ n + s.size <= 140737488355328) old E 1 (fun _ => n + s.size) (fun _ => xs ++ strCells s)
   | _, _ => .bad
  | _, _, _ => .bad
 | _, _ => .bad
def zma (ti : TyI) : TV := match ti.agg with
 | true => .agg (ti.zero.map SA.v)
 | false => .one (.v (ti.zero.headD undef))
def zjm (T : Tab) (st : St) (t : TypeId) (ok : Bool) (x : Operand) : Sig := match ok, get t T.ty, get t T.u, ev st.s x with
 | true, some ti, some d, some (.one (.v v)) => match zkk d, v with
  | false, .nilIface => .det (.tup [zma ti, .one (.v (.bool false))])
  | false, .iface u y => match Nat.beq u t with
   | true => .det (.tup [.one (.v y), .one (.v (.bool true))])
   | false => .det (.tup [zma ti, .one (.v (.bool false))])
  | _, _ => .bad
 | _, _, _, _ => .bad
section
variable {P : Program} {T : Tab} {cx : Cx} {e : Env} {st : St} {o : Oper} {a : Act} {w : World}
theorem zvd (hS : Sat cx e st a w) {x : Operand} (ho : o.op = .nilCheck x) : zcy P e st o a w (zux st x) := by
 unfold zux
 split
 ·rename_i i off hx
  obtain ⟨h1, h2⟩ := hS.ev hx
  exact ⟨h1, by simp [execOp, ho, h2, SV.real, SA.real]⟩
 ·rename_i ad hx
  obtain ⟨h1, h2⟩ := hS.ev hx
  exact ⟨h1, by simp [execOp, ho, h2, SV.real, SA.real]⟩
 ·rename_i f fs cs hx
  obtain ⟨h1, h2⟩ := hS.ev hx
  exact ⟨h1, by simp [execOp, ho, h2, SV.real, SA.real]⟩
 ·trivial
theorem zj9 (hS : Sat cx e st a w) {x : Option Operand} {l : Option Int} (h : zlo st.s x = some l) : (l = none /\ x.map a.eval = none) \/ ∃ i k, l = some i /\ x.map a.eval = some (.int k i) := by
 unfold zlo at h
 split at h
 ·cases h; exact .inl ⟨rfl, rfl⟩
 ·split at h
  ·rename_i x k i hx
   cases h
   exact .inr ⟨i, k, rfl, by rw [Option.map_some, (hS.ev hx).2]; rfl⟩
  ·cases h
theorem znr {t E : TypeId} (hu : P.underlying t = some (.slice E)) {z : Nat} (hz : ∀ w, (sizeOf E).run P w = .ok z w) {A : Option Addr} {n cp : Nat} {lo hi : Option Value} {l h : Option Int} {i j : Nat}
  (hl : (l = none /\ lo = none) \/ ∃ q k, l = some q /\ lo = some (.int k q)) (hh : (h = none /\ hi = none) \/ ∃ q k, h = some q /\ hi = some (.int k q))
  (h1 : Bd l i 0) (h2 : Bd h j n) (h3 : i <= j) (h4 : j <= cp) : (Instr.sliceAt t (.slice A n cp) lo hi none).run P w = .ok (.slice (cutA A cp i z) (j - i) (cp - i)) w := by
 have he : P.elem t = E := by simp [Program.elem, hu]
 have hu' : P.underlying t = some (.slice (P.elem t)) := by rw [he]; exact hu
 rw [run_sliceAt_slice w t _ _ _ _ hu']
 have hend : sliced A i j cp z = .slice (cutA A cp i z) (j - i) (cp - i) := by
  unfold sliced cutA
  by_cases hc : cp = i
  ·have : Nat.beq cp i = true := by rw [Nat.beq_eq]; exact hc
   rw [if_pos hc, this]
  ·have : Nat.beq cp i = false := by rw [<- Bool.not_eq_true, Nat.beq_eq]; exact hc
   rw [if_neg hc, this]
 rcases hl with ⟨rfl, rfl⟩ | ⟨q, k, rfl, rfl⟩ <;> rcases hh with ⟨rfl, rfl⟩ | ⟨q', k', rfl, rfl⟩ <;> simp only [Bd] at h1 h2 <;> subst h1 <;> subst h2
 ·rw [run_slice_all w t _ _ _ hu', he, hz]
  simp [Result.andThen_ok, hend]
 ·rw [run_slice_h w t _ _ _ hu' _ _ (by omega) (by omega), he, hz]
  simp [Result.andThen_ok, hend]
 ·rw [run_slice_l w t _ _ _ hu' _ _ (by omega) (by omega), he, hz]
  simp [Result.andThen_ok, hend]
 ·rw [run_slice_lh w t _ _ _ hu' _ _ _ _ (by omega) (by omega) (by omega), he, hz]
  simp [Result.andThen_ok, hend]
theorem zkx {t : TypeId} (hu : P.underlying t = some .string) {s : ByteArray} {lo hi : Option Value} {l h : Option Int} {i j : Nat}
  (hl : (l = none /\ lo = none) \/ ∃ q k, l = some q /\ lo = some (.int k q)) (hh : (h = none /\ hi = none) \/ ∃ q k, h = some q /\ hi = some (.int k q))
  (h1 : Bd l i 0) (h2 : Bd h j s.size) (h3 : i <= j) (h4 : j <= s.size) : (Instr.sliceAt t (.string s) lo hi none).run P w = .ok (.string (s.extract i j)) w := by
 have e0 : (Instr.sliceAt t (.string s) lo hi none).run P w = (Instr.slice t (.string s) lo hi none).run P w := by simp [Instr.sliceAt, run_underlying hu]
 rw [e0]
 rcases hl with ⟨rfl, rfl⟩ | ⟨q, k, rfl, rfl⟩ <;> rcases hh with ⟨rfl, rfl⟩ | ⟨q', k', rfl, rfl⟩ <;> simp only [Bd] at h1 h2 <;> subst h1 <;> subst h2
 ·exact run_slice_string_all w t s hu
 ·rw [run_slice_string_h w t s hu _ _ (by omega) (by omega)]; simp
 ·rw [run_slice_string_l w t s hu _ _ (by omega) (by omega)]; simp
 ·rw [run_slice_string w t s _ _ _ _ hu (by omega) (by omega) (by omega)]; simp
theorem zo3 (hT : T.Ok P) (hS : Sat cx e st a w) {t : TypeId} {x : Operand} {lo hi mx : Option Operand} (ho : o.op = .slice t x lo hi mx) : zcy P e st o a w (zlj T st t x lo hi mx) := by
 unfold zlj
 split
 ·rename_i l h hl hh
  have hl := zj9 hS hl
  have hh := zj9 hS hh
  split
  ·rename_i s hu hx
   have hu := hT.u _ (zak hu)
   simp only at hu
   have hx2 : a.eval x = .string s := (hS.ev hx).2
   rintro c ⟨h1, h2, h3, h4⟩
   refine ⟨trivial, ?_⟩
   simp only [execOp, ho, Option.map_none, hx2, Sem.run_bind, zkx hu hl hh h1 h2 h3 h4, Result.andThen_ok, Sem.run_pure]
   rfl
  ·rename_i E A n cp hu hx
   have hu := hT.u _ (zak hu)
   simp only at hu
   have hx2 : a.eval x = .slice A n cp := (hS.ev hx).2
   split
   ·rename_i ti hE
    rintro c ⟨h1, h2, h3, h4⟩
    refine ⟨trivial, ?_⟩
    simp only [execOp, ho, Option.map_none, hx2, Sem.run_bind, znr hu (fun w => hT.size hE w) hl hh h1 h2 h3 h4, Result.andThen_ok, Sem.run_pure]
    rfl
   ·trivial
  ·trivial
 ·trivial
theorem zt8 (hT : T.Ok P) {t : Nat} {ti : TyI} (h : get t T.ty = some ti) (e : Env) {k : Nat} : (zma ti).real e = ti.val /\ (zma ti).lt k := by
 unfold zma TyI.val
 cases ti.agg with
 | true =>
  refine ⟨by simp only [TV.real, zbd], fun c hc => ?_⟩
  obtain ⟨u, hu, rfl⟩ := List.mem_map.1 hc
  exact (hT.ty _ (zak h)).2.2.2.2 u hu
 | false => exact ⟨rfl, trivial⟩
theorem zmr (hT : T.Ok P) (hS : Sat cx e st a w) {xt t : TypeId} {x : Operand} {ok : Bool} (ho : o.op = .typeAssert x xt t ok) : zcy P e st o a w (zjm T st t ok x) := by
 unfold zjm
 split
 ·rename_i ti d v hti hd hx
  have hd := hT.u _ (zak hd)
  simp only at hd
  have hx2 : a.eval x = v := (hS.ev hx).2
  obtain ⟨hz1, hz2⟩ := zt8 hT hti e (k := st.k)
  have hz := hT.zero hti w
  split
  ·rename_i hi
   refine ⟨fun y hy => ?_, ?_⟩
   ·rcases List.mem_cons.1 hy with rfl | hy
    ·exact hz2
    ·rw [List.mem_singleton.1 hy]; trivial
   ·simp only [execOp, ho, hx2, SV.real, List.map_cons, List.map_nil, hz1]
    cases d <;> simp [zkk] at hi <;> simp [Instr.typeAssert, run_underlying hd, hz, TV.real, SA.real]
  ·rename_i u y hi
   split
   ·rename_i hb
    obtain rfl : u = t := by rw [<- Nat.beq_eq]; exact hb
    refine ⟨fun q hq => ?_, ?_⟩
    ·rcases List.mem_cons.1 hq with rfl | hq
     ·trivial
     ·rw [List.mem_singleton.1 hq]; trivial
    ·simp only [execOp, ho, hx2, SV.real, List.map_cons, List.map_nil]
     cases d <;> simp [zkk] at hi <;> simp [Instr.typeAssert, run_underlying hd, TV.real, SA.real]
   ·rename_i hb
    have hne : u ≠ t := fun e1 => by
     rw [e1, Nat.beq_refl] at hb
     cases hb
    refine ⟨fun y hy => ?_, ?_⟩
    ·rcases List.mem_cons.1 hy with rfl | hy
     ·exact hz2
     ·rw [List.mem_singleton.1 hy]; trivial
    ·simp only [execOp, ho, hx2, SV.real, List.map_cons, List.map_nil, hz1]
     cases d <;> simp [zkk] at hi <;> simp [Instr.typeAssert, run_underlying hd, hne, hz, TV.real, SA.real]
  ·trivial
 ·trivial
theorem ztf {ti : TyI} (h : zsh ti = true) : ti.size = 1 /\ ti.bytes = 1 /\ ti.val = .int .u8 0 := by
 unfold zsh at h
 split at h
 ·rename_i h1 h2 h3 h4
  exact ⟨by rw [<- Nat.beq_eq]; exact h1, by rw [<- Nat.beq_eq]; exact h2, by unfold TyI.val; rw [h3, h4]; rfl⟩
 ·cases h
theorem zys (hS : Sat cx e st a w) {E : TypeId} {z : Nat} {u : SV} {old : Option Nat} {n : Nat} {xs : List Value} {ez : Option (Nat × Nat)} (hbase : znq st z u = some (old, n, xs, ez)) :
  (∀ i, old = some i -> i < st.k) /\ ((ez = none \/ ez = some (E, z)) -> w.ownsRow 0 E z (u.real e) n xs /\ (u.real e).ownBlock = ze2 e st.m old) := by
 unfold znq at hbase
 split at hbase
 ·cases hbase
  exact ⟨fun i hi => (by cases hi), fun _ => ⟨World.ownsRow_nil w 0 E z, rfl⟩⟩
 ·rename_i i
  split at hbase
  ·rename_i E' z' n' xs' hi
   cases hbase
   refine ⟨fun j hj => by cases hj; exact (hS.mem.sc _ _ hi).1, fun hez => ?_⟩
   rcases hez with hez | hez
   ·cases hez
   ·cases hez
    exact ⟨hS.mem.own _ _ _ _ _ hi, by simp only [ze2, hi, Option.bind_some]; rfl⟩
  ·cases hbase
 ·rename_i i n' c'
  split at hbase
  ·rename_i E' cs hi
   split at hbase
   ·rename_i vs hvs hb1 hb2 hb3
    cases hbase
    have hnc : n = c' := by rw [<- Nat.beq_eq]; exact hb1
    subst hnc
    have hcl : cs.length = n * z := by rw [<- Nat.beq_eq]; exact hb2
    have hle : n <= 1000000 := Nat.le_of_ble_eq_true hb3
    refine ⟨fun j hj => by cases hj; exact (hS.mem.sc _ _ hi).1, fun hez => ?_⟩
    rcases hez with hez | hez
    ·cases hez
    ·cases hez
     have hbk := hS.mem.cells _ _ _ hi
     have hpl := zbn e hvs
     rw [hpl] at hbk
     have hvl : xs.length = n * z := by rw [<- hpl, zcc]; exact hcl
     refine ⟨⟨hvl, .inr ⟨e.blk i, n, xs.toArray, rfl, Nat.zero_le _, hbk, Nat.le_refl _, by simp only [maxLen]; omega, by simpa using hvl, ?_⟩⟩, by simp only [ze2, hi, Option.bind_some]; rfl⟩
     rw [<- hvl]
     simp
   ·cases hbase
  ·cases hbase
 ·cases hbase
theorem zl7 (hT : T.Ok P) (hS : Sat cx e st a w) {t t' : TypeId} {x y : Operand} (ho : o.op = .call { callee := .builtin .append, args := #[x, y], argTypes := #[t, t'] }) : zcy P e st o a w (zhi T st t t' x y) := by
 unfold zhi
 split
 ·rename_i E hu hu'
  have hu := hT.u _ (zak hu)
  have hu' := hT.u _ (zak hu')
  simp only at hu hu'
  split
  ·rename_i ti u s hE hx hy
   split
   ·rename_i old n xs ez hby hbase
    have hx2 := (hS.ev hx).2
    have hy2 : a.eval y = .string s := (hS.ev hy).2
    obtain ⟨fi, hi1, hi2, hi3, hi4⟩ := hT.info hE
    obtain ⟨b1, b2, b3⟩ := ztf hby
    rw [b1] at hbase
    have hb := zys (E := E) hS hbase
    refine ⟨hb.1, ?_⟩
    rintro c ⟨hez, hbytes⟩
    obtain ⟨hown, hblk⟩ := hb.2 hez
    have h63 : n + s.size <= maxLen := by simp only [maxLen]; omega
    have hend : ∀ {v' : Value} {w' : World}, (Builtin.append_ #[t, t'] o.type #[u.real e, .string s]).run P w = .ok v' w' -> w'.ownsRow 0 E 1 v' (n + s.size) (xs ++ strCells s) -> w.grownBy w' (u.real e).ownBlock -> (∀ g, v'.ownBlock = some g -> w.heap.size <= g \/ (u.real e).ownBlock = some g) ->
      ∃ v w', (execOp a.eval o).run P w = .ok (.value (.slice v.1 v.2.1 v.2.2)) w' /\ zt5 P e st.m w w' v old E 1 (n + s.size) (xs ++ strCells s) := by
     intro v' w' hr h1 h2 h3
     have hv' : ∃ q : Option Addr × Nat × Nat, v' = .slice q.1 q.2.1 q.2.2 := by
      rcases h1.2 with ⟨rfl, _⟩ | ⟨g, cap, cur, rfl, _⟩
      ·exact ⟨(none, 0, 0), rfl⟩
      ·exact ⟨(some ⟨g, 0, none⟩, _, cap), rfl⟩
     obtain ⟨q, rfl⟩ := hv'
     refine ⟨q, w', ?_, ?_, h1, ?_⟩
     ·simp only [execOp, ho, resolve, invoke, builtin, Sem.run_bind, Sem.run_pure, Result.andThen_ok, List.map_toArray, List.map_cons, List.map_nil, hx2, hy2, hr]
     ·rw [<- hblk]; exact h2
     ·rw [<- hblk]; exact h3
    obtain ⟨v', w', hr, h1, h2, h3⟩ := run_append_own_string (P := P) w 0 t t' o.type E fi hu hu' hi1 (by rw [hi4, b3]) (by rw [hi2, b1]) (by rw [hi3, b2]) (u.real e) n xs hown s h63 hbytes (Nat.zero_le _)
    refine hend hr h1 h2 fun g hg => ?_
    rcases hown.2 with ⟨hu0, hn0⟩ | ⟨g0, cap, cur, hu0, _, hh, hnc, hcm, hcs, htake⟩
    ·have hown2 : w.ownsRow w.heap.size E 1 (u.real e) n xs := by
      have hx0 : xs = [] := List.eq_nil_of_length_eq_zero (by rw [hown.1, hn0, Nat.zero_mul])
      rw [hu0, hx0, hn0]
      exact World.ownsRow_nil w _ E 1
     obtain ⟨v2, w2, hr2, h12, _, _⟩ := run_append_own_string (P := P) w w.heap.size t t' o.type E fi hu hu' hi1 (by rw [hi4, b3]) (by rw [hi2, b1]) (by rw [hi3, b2]) (u.real e) n xs hown2 s h63 hbytes (Nat.le_refl _)
     rw [hr] at hr2
     cases hr2
     exact .inl (h12.lt g hg).1
    ·by_cases hroom : n + s.size <= cap
     ·have hr2 := run_append_room_string (P := P) w t t' o.type E fi hu hu' hi1 (by rw [hi2, b1]) g0 n cap cur hh s hroom (by omega)
      rw [hu0] at hr
      rw [hr] at hr2
      cases hr2
      rw [hu0]
      exact .inr hg
     ·have holds : ∀ j u, xs[j]? = some u -> w.cell? ((⟨g0, 0, none⟩ : Addr).add j) = some u := by
       rw [hu0] at hown
       exact hown.cells (g := g0) rfl
      have hr2 := run_append_grow_string (P := P) w t t' o.type E fi (.int .u8 0) hu hu' hi1 (by rw [hi4, b3]) ⟨g0, 0, none⟩ n cap xs (by rw [hown.1, hi2, b1]) holds s (by omega) (by omega) (by rw [hi3, b2]; exact growslice_fits (by omega) (by omega))
      rw [hu0] at hr
      rw [hr] at hr2
      cases hr2
      cases hg
      exact .inl (Nat.le_refl _)
   ·trivial
  ·trivial
 ·trivial
end
end Go.Proofs.Sym
end
section
set_option linter.unusedVariables false
set_option linter.unusedSimpArgs false
namespace Go.Proofs.Sym
open Go.RowKit Go.Proofs.Base Go.Proofs.Mono
def zq6 (place : Nat -> Option (Nat × Nat)) (cs : List SA) : List (Nat × SV) -> Option (List SA)
 | [] => some cs
 | (i, v) :: r => match place i, cellsOf v with
  | some (off, size), some vs => match Nat.beq vs.length size, Nat.ble (off + vs.length) cs.length with
   | true, true => zq6 place (cs.take off ++ (vs ++ cs.drop (off + vs.length))) r
   | _, _ => none
  | _, _ => none
theorem zoa (vs : List Value) : ∀ (off k : Nat) (cs : List Value), off + k + vs.length <= cs.length ->
  (vs.zipIdx k).foldl (fun (a : Array Value) (x : Value × Nat) => a.setIfInBounds (off + x.2) x.1) cs.toArray = (cs.take (off + k) ++ (vs ++ cs.drop (off + k + vs.length))).toArray := by
 induction vs with
 | nil => intro off k cs _; simp
 | cons v r ih =>
  intro off k cs h
  simp only [List.length_cons] at h
  simp only [List.zipIdx_cons, List.foldl_cons, List.setIfInBounds_toArray]
  rw [ih off (k + 1) (cs.set (off + k) v) (by simp; omega)]
  congr 1
  have e1 : (cs.set (off + k) v).take (off + (k + 1)) = cs.take (off + k) ++ [v] := by
   rw [show off + (k + 1) = off + k + 1 by omega, List.take_add_one, List.take_set_of_le (Nat.le_refl _), List.getElem?_set_self (by omega)]
   rfl
  have e2 : (cs.set (off + k) v).drop (off + (k + 1) + r.length) = cs.drop (off + k + (v :: r).length) := by
   rw [List.drop_set_of_lt (by omega)]
   congr 1
   simp
   omega
  rw [e1, e2]
  simp
theorem zh6 (place : Nat -> Option (Nat × Nat)) (e : Env) {k : Nat} : ∀ {ps : List (Nat × SV)} {cs ds : List SA}, (∀ p ∈ ps, p.2.lt k) -> (∀ c ∈ cs, c.lt k) -> zq6 place cs ps = some ds ->
  Instr.fill place (reals e cs).toArray (ps.map fun p => (p.1, p.2.real e)) = some (reals e ds).toArray /\ ds.length = cs.length /\ ∀ c ∈ ds, c.lt k
 | [], cs, ds, _, hc, h => by cases h; exact ⟨rfl, rfl, hc⟩
 | (i, v) :: r, cs, ds, hp, hc, h => by
  simp only [zq6] at h
  split at h
  ·rename_i off size vs hpl hvs
   split at h
   ·rename_i hb1 hb2
    have h1 : vs.length = size := by rw [<- Nat.beq_eq]; exact hb1
    have h2 : off + vs.length <= cs.length := Nat.le_of_ble_eq_true hb2
    obtain ⟨hv1, hv2⟩ := zf0 hvs e (hp (i, v) List.mem_cons_self)
    have hlt : ∀ c ∈ cs.take off ++ (vs ++ cs.drop (off + vs.length)), c.lt k := by
     intro c hm
     rcases List.mem_append.1 hm with hm | hm
     ·exact hc c (List.mem_of_mem_take hm)
     ·rcases List.mem_append.1 hm with hm | hm
      ·exact hv2 c hm
      ·exact hc c (List.mem_of_mem_drop hm)
    obtain ⟨h3, h4, h5⟩ := zh6 place e (fun p hm => hp p (List.mem_cons_of_mem _ hm)) hlt h
    refine ⟨?_, ?_, h5⟩
    ·simp only [List.map_cons, Instr.fill, hpl, hv1]
     rw [if_neg (by simp [zcc, h1]; omega)]
     rw [<- h3]
     congr 1
     rw [<- Array.foldl_toList, Array.toList_zipIdx]
     simp only
     have := zoa (reals e vs) off 0 (reals e cs) (by simp only [zcc]; omega)
     simp only [Nat.add_zero] at this
     refine this.trans ?_
     simp [reals, List.map_take, List.map_drop]
    ·rw [h4]
     simp
     omega
   ·cases h
  ·cases h
def repS (n : Nat) (z : List SA) : List SA := match n with
 | 0 => []
 | n + 1 => z ++ repS n z
theorem zqh (z : List SA) : ∀ n, (repS n z).length = n * z.length
 | 0 => by simp [repS]
 | n + 1 => by simp [repS, zqh z n, Nat.add_mul, Nat.add_comm]
theorem zp4 (z : List SA) (hz : 0 < z.length) : ∀ n i, i < n * z.length -> (repS n z)[i]? = z[i % z.length]?
 | 0, i, h => by simp at h
 | n + 1, i, h => by
  simp only [repS]
  by_cases hi : i < z.length
  ·rw [List.getElem?_append_left hi, Nat.mod_eq_of_lt hi]
  ·rw [List.getElem?_append_right (by omega), zp4 z hz n (i - z.length) (by rw [Nat.add_mul] at h; omega)]
   congr 1
   exact (Nat.mod_eq_sub_mod (by omega)).symm
def zuf (s : List (Nat × SV)) (l : List (Nat × Operand)) : Option (List (Nat × SV)) := za1 (fun p => match ev s p.2 with | some v => some (p.1, v) | none => none) l
def zli (T : Tab) (t : TypeId) (i : Nat) : Option (Nat × Nat) := match get t T.fld with
 | some fs => match fs[i]? with
  | some (off, ft) => match get ft T.ty with
   | some ti => some (off, ti.size)
   | none => none
  | none => none
 | none => none
def zf1 (T : Tab) : List (Nat × Nat) -> Bool
 | [] => true
 | (_, ft) :: r => match get ft T.ty with
  | some _ => zf1 T r
  | none => false
def zll (T : Tab) (st : St) (t : TypeId) (ps : List (Nat × Operand)) : Sig := match get t T.ty, get t T.fld, zuf st.s ps with
 | some ti, some fs, some vs => match zf1 T fs with
  | true => match zq6 (zli T t) (ti.zero.map SA.v) vs with
   | some cs => .det (.agg cs)
   | none => .bad
  | false => .bad
 | some ti, none, some vs => match get t T.u with
  | some (.array _ E) => match get E T.ty with
   | some te => match zq6 (fun i => some (i * te.size, te.size)) (ti.zero.map SA.v) vs with
    | some cs => .det (.agg cs)
    | none => .bad
   | none => .bad
  | _ => .bad
 | _, _, _ => .bad
def zem (T : Tab) (st : St) (t : TypeId) (len : Nat) (ps : List (Nat × Operand)) : Sig := match get t T.u, zuf st.s ps with
 | some (.slice E), some vs => match get E T.ty with
  | some te => match te.size, Nat.ble (len * te.size) 16777216 with
   | _ + 1, true => match zq6 (fun i => some (i * te.size, te.size)) (repS len (te.zero.map SA.v)) vs with
    | some cs => .new (.one (.sl st.k 0 len len)) E cs
    | none => .bad
   | _, _ => .bad
  | none => .bad
 | _, _ => .bad
def zia (st : St) (x : Operand) : Sig := match ev st.s x with
 | some (.one (.v (.iface t v))) => .pan (.iface t v)
 | _ => .bad
def sig (T : Tab) (st : St) (o : Oper) : Sig := match o.op with
 | .move x => ze8 st x
 | .assign x => ze8 st x
 | .pick c x y => zn6 st c x y
 | .alloc t => zlv T st t
 | .box t x => zse st t x
 | .build t ps => zll T st t ps.toList
 | .buildSlice t n ps => zem T st t n ps.toList
 | .load t x => zox T st t x
 | .store t x y => zl1 T st t x y
 | .fieldAddr t x j => zfq T st t x j
 | .field t x j => zle T st t x j
 | .indexAddr t x i => ze7 T st t x i
 | .index t x i => zly T st t x i
 | .binOp op t x y _ => ztw T st op t x y
 | .unOp op _ x => zzs st op x
 | .convert s d x => zo2 T st s d x
 | .extract x j => zhs st x j
 | .makeFunc f fs cs => zoy st f fs.toList cs.toList
 | .makeInterface t x => zl6 T st t x
 | .panic x => zia st x
 | .nilCheck x => zux st x
 | .slice t x lo hi mx => zlj T st t x lo hi mx
 | .typeAssert x _ t ok => zjm T st t ok x
 | .call c => match c.callee with
  | .value f => zn8 st f c.args.toList
  | .builtin b => match b, c.args.toList, c.argTypes.toList with
   | .len, [x], [t] => zuz T st t x
   | .min, [x, y], _ => zti st x y
   | .max, [x, y], _ => ztz st x y
   | .append, [x, y], [t, t'] => match Nat.beq t t' with
    | true => zil T st t x y
    | false => zhi T st t t' x y
   | .panic, [x], _ => zia st x
   | _, _, _ => .bad
  | _ => .bad
 | _ => .bad
section
variable {P : Program} {T : Tab} {cx : Cx} {e : Env} {st : St} {o : Oper} {a : Act} {w : World}
theorem zi2 (hS : Sat cx e st a w) {l : List (Nat × Operand)} {vs : List (Nat × SV)} (h : zuf st.s l = some vs) : l.map (fun p => (p.1, a.eval p.2)) = vs.map (fun p => (p.1, p.2.real e)) /\ ∀ p ∈ vs, p.2.lt st.k := by
 refine ⟨zch _ _ (fun x y hy => ?_) h, zeh (fun x y hy => ?_) h⟩
 ·split at hy
  ·rename_i v hv
   cases hy
   simp [(hS.ev hv).2]
  ·cases hy
 ·split at hy
  ·rename_i v hv
   cases hy
   exact (hS.ev hv).1
  ·cases hy
theorem zov {k : Nat} (hT : T.Ok P) {t : Nat} {i : TyI} (h : get t T.ty = some i) : ∀ c ∈ i.zero.map SA.v, c.lt k := by
 intro c hc
 obtain ⟨u, hu, rfl⟩ := List.mem_map.1 hc
 exact (hT.ty _ (zak h)).2.2.2.2 u hu
theorem zkq (hT : T.Ok P) (w : World) : ∀ (gs : List Field), zf1 T (gs.map fun f => (f.offset, f.type)) = true -> (gs.mapM (fun f => do pure (f.offset, <- sizeOf f.type)) : Sem (List (Nat × Nat))).run P w = .ok (gs.map fun f => (f.offset, ((get f.type T.ty).map (·.size)).getD 0)) w
 | [], _ => by simp
 | f :: r, h => by
  simp only [List.map_cons, zf1] at h
  split at h
  ·rename_i ti hti
   have ih := zkq hT w r h
   simp only [List.mapM_cons, Sem.run_bind, hT.size hti, Result.andThen_ok, Sem.run_pure, ih, List.map_cons, hti, Option.map_some, Option.getD_some]
  ·cases h
theorem zoo (hT : T.Ok P) (hS : Sat cx e st a w) {t : TypeId} {ps : Array (Nat × Operand)} (ho : o.op = .build t ps) : zcy P e st o a w (zll T st t ps.toList) := by
 unfold zll
 split
 ·rename_i ti fs vs hti hfs hvs
  obtain ⟨hp1, hp2⟩ := zi2 hS hvs
  split
  ·rename_i hin
   split
   ·rename_i cs hcs
    obtain ⟨gs, hg1, hg2⟩ := hT.fld _ (zak hfs)
    simp only at hg1 hg2
    obtain ⟨h1, h2, h3⟩ := zh6 (zli T t) e hp2 (zov hT hti) hcs
    refine ⟨h3, ?_⟩
    have hpm : (ps.map fun x => (x.1, a.eval x.2)).toList = vs.map (fun p => (p.1, p.2.real e)) := by rw [Array.toList_map]; exact hp1
    have hpl := zkq hT w gs.toList (by rw [hg2]; exact hin)
    have hplA : (gs.mapM (fun f => do pure (f.offset, <- sizeOf f.type)) : Sem (Array (Nat × Nat))).run P w = .ok (gs.toList.map fun f => (f.offset, ((get f.type T.ty).map (·.size)).getD 0)).toArray w := by
     rw [Array.mapM_eq_mapM_toList, Sem.run_map, hpl]
     rfl
    have hplace : (fun i => ((gs.toList.map fun f => (f.offset, ((get f.type T.ty).map (·.size)).getD 0)).toArray)[i]?) = zli T t := by
     funext i
     unfold zli
     rw [hfs]
     simp only [List.getElem?_toArray]
     rw [<- hg2]
     simp only [List.getElem?_map]
     cases hq : gs.toList[i]? with
     | none => rfl
     | some f =>
      simp only [Option.map_some]
      have hfi : ∀ {l : List (Nat × Nat)} {p : Nat × Nat}, zf1 T l = true -> p ∈ l -> ∃ ti, get p.2 T.ty = some ti := by
       intro l
       induction l with
       | nil => intro p _ hm; cases hm
       | cons q r ih =>
        intro p hl hm
        obtain ⟨q1, q2⟩ := q
        simp only [zf1] at hl
        split at hl
        ·rename_i ti hti
         rcases List.mem_cons.1 hm with rfl | hm
         ·exact ⟨ti, hti⟩
         ·exact ih hl hm
        ·cases hl
      obtain ⟨tf, htf⟩ := hfi hin (by rw [<- hg2]; exact List.mem_map.2 ⟨f, List.mem_of_getElem? hq, rfl⟩)
      simp only at htf
      rw [htf]
      rfl
    simp only [execOp, ho, Instr.build, Sem.run_bind, hT.zero hti, Result.andThen_ok, run_underlying hg1, hplA, hT.cells hti, hplace]
    rw [show ti.zero = reals e (ti.zero.map SA.v) from (zbd e _).symm, hpm, h1]
    simp [SV.real]
   ·trivial
  ·trivial
 ·rename_i ti vs hti hfs hvs
  obtain ⟨hp1, hp2⟩ := zi2 hS hvs
  split
  ·rename_i n E hu
   split
   ·rename_i te hte
    split
    ·rename_i cs hcs
     obtain ⟨h1, h2, h3⟩ := zh6 _ e hp2 (zov hT hti) hcs
     refine ⟨h3, ?_⟩
     have hpm : (ps.map fun x => (x.1, a.eval x.2)).toList = vs.map (fun p => (p.1, p.2.real e)) := by rw [Array.toList_map]; exact hp1
     simp only [execOp, ho, Instr.build, Sem.run_bind, hT.zero hti, Result.andThen_ok, zcl hT hu, hT.cells hti, hT.size hte]
     rw [show ti.zero = reals e (ti.zero.map SA.v) from (zbd e _).symm, hpm, h1]
     simp [SV.real]
    ·trivial
   ·trivial
  ·trivial
 ·trivial
theorem zh4 (hT : T.Ok P) (hS : Sat cx e st a w) {t : TypeId} {n : Nat} {ps : Array (Nat × Operand)} (ho : o.op = .buildSlice t n ps) : zcy P e st o a w (zem T st t n ps.toList) := by
 unfold zem
 split
 ·rename_i E vs hu hvs
  obtain ⟨hp1, hp2⟩ := zi2 hS hvs
  split
  ·rename_i te hte
   split
   ·rename_i q hq hble
    split
    ·rename_i cs hcs
     have hz := zje hT hte
     have hzl : ∀ c ∈ repS n (te.zero.map SA.v), c.lt st.k := by
      have : ∀ m, ∀ c ∈ repS m (te.zero.map SA.v), c.lt st.k := by
       intro m
       induction m with
       | zero => intro c hc; cases hc
       | succ m ih =>
        intro c hc
        rcases List.mem_append.1 hc with hc | hc
        ·exact zov hT hte c hc
        ·exact ih c hc
      exact this n
     obtain ⟨h1, h2, h3⟩ := zh6 _ e hp2 hzl hcs
     refine ⟨Nat.lt_succ_self _, h3, ?_⟩
     have hpm : (ps.map fun x => (x.1, a.eval x.2)).toList = vs.map (fun p => (p.1, p.2.real e)) := by rw [Array.toList_map]; exact hp1
     have hble := Nat.le_of_ble_eq_true hble
     have hrep : (Array.range (n * te.size)).map (fun x => te.zero.toArray[x % te.zero.toArray.size]!) = (reals e (repS n (te.zero.map SA.v))).toArray := by
      apply Array.ext'
      apply List.ext_getElem?
      intro i
      simp only [Array.toList_map, Array.toList_range, List.getElem?_map, List.size_toArray, hz]
      by_cases hi : i < n * te.size
      ·rw [List.getElem?_range hi, zhh, zp4 _ (by simp [hz]; omega) n i (by simpa [hz] using hi)]
       simp only [Option.map_some, List.length_map, hz, List.getElem?_map]
       have hm : i % te.size < te.zero.length := by rw [hz]; exact Nat.mod_lt _ (by omega)
       rw [List.getElem?_eq_getElem hm]
       simp [SA.real, hm]
      ·rw [List.getElem?_eq_none (by simpa using hi), List.getElem?_eq_none (by simp [zcc, zqh, hz]; omega)]
       rfl
     have hrep2 : n * te.size = 0 -> (Array.range (n * te.size)).map (fun x => (#[] : Array Value)[x % (#[] : Array Value).size]!) = (reals e (repS n (te.zero.map SA.v))).toArray := by
      intro h0
      have hn0 : n = 0 := by
       rcases Nat.mul_eq_zero.1 h0 with h | h
       ·exact h
       ·omega
      subst hn0
      simp [repS, reals]
     simp only [execOp, ho, Instr.buildSlice, Sem.run_bind, zcl hT hu, Result.andThen_ok, hT.size hte]
     rw [if_neg (by omega), hpm]
     by_cases h0 : n * te.size = 0
     ·simp only [if_pos h0, Sem.run_bind, Sem.run_pure, Result.andThen_ok, hrep2 h0, h1]
      simp only [newRow, Sem.run_bind, run_newObj, Result.andThen_ok, Sem.run_pure, SV.real, SA.real, Env.setBlk_self]
      rfl
     ·simp only [if_neg h0, Sem.run_bind, hT.zero hte, Sem.run_pure, Result.andThen_ok, hT.cells hte, hrep, h1]
      simp only [newRow, Sem.run_bind, run_newObj, Result.andThen_ok, Sem.run_pure, SV.real, SA.real, Env.setBlk_self]
      rfl
    ·trivial
   ·trivial
  ·trivial
 ·trivial
theorem zi0 (hS : Sat cx e st a w) {x : Operand} (hr : ∀ t v, a.eval x = .iface t v -> (execOp a.eval o).run P w = .halt (.panic (.iface t v)) w) : zcy P e st o a w (zia st x) := by
 unfold zia
 split
 ·rename_i t v hx
  exact hr t v (hS.ev hx).2
 ·trivial
theorem zeq {α : Type} {xs : Array α} {l : List α} (h : xs.toList = l) : xs = l.toArray := by rw [<- h]
theorem zfc (hT : T.Ok P) (hS : Sat cx e st a w) : zcy P e st o a w (sig T st o) := by
 unfold sig
 cases ho : o.op <;> simp only <;> first | trivial | skip
 case move x => exact zkj hS (.inl ho)
 case assign x => exact zkj hS (.inr ho)
 case pick c x y => exact zrz hS ho
 case alloc t => exact zoc hT hS ho
 case box t x => exact ztp hS ho
 case build t ps => exact zoo hT hS ho
 case buildSlice t n ps => exact zh4 hT hS ho
 case load t x => exact zrh hT hS ho
 case store t x y => exact zn4 hT hS ho
 case fieldAddr t x j => exact ziw hT hS ho
 case field t x j => exact znx hT hS ho
 case indexAddr t x i => exact zi1 hT hS ho
 case index t x i => exact zot hT hS ho
 case binOp op t x y yt => exact zul hT hS ho
 case unOp op t x => exact zvo hS ho
 case convert s d x => exact zr0 hT hS ho
 case extract x j => exact zk0 hS ho
 case makeFunc f fs cs => exact zrq hS ho
 case makeInterface t x => exact zo4 hT hS ho
 case panic x =>
  refine zi0 hS fun t v hx => ?_
  simp [execOp, ho, hx, Instr.panic]
 case nilCheck x => exact zvd hS ho
 case slice t x lo hi mx => exact zo3 hT hS ho
 case typeAssert x xt t ok => exact zmr hT hS ho
 case call c =>
  obtain ⟨callee, args, ts⟩ := c
  cases callee with
  | value f => exact zq7 hS ho
  | invoke r m => trivial
  | builtin b =>
   simp only
   split
   ·rename_i x t h1 h2
    obtain rfl := zeq h1
    obtain rfl := zeq h2
    exact zva hT hS ho
   ·rename_i x y h1
    obtain rfl := zeq h1
    exact zuq hS ho
   ·rename_i x y h1
    obtain rfl := zeq h1
    exact zt2 hS ho
   ·rename_i x y t t' h1 h2
    split
    ·rename_i hb
     obtain rfl : t = t' := by rw [<- Nat.beq_eq]; exact hb
     obtain rfl := zeq h1
     obtain rfl := zeq h2
     exact zmb hT hS ho
    ·obtain rfl := zeq h1
     obtain rfl := zeq h2
     exact zl7 hT hS ho
   ·rename_i x h1
    obtain rfl := zeq h1
    refine zi0 hS fun t v hx => ?_
    simp [execOp, ho, resolve, invoke, builtin, hx, Instr.panic]
   ·trivial
end
end Go.Proofs.Sym
end
