/- Symbolic operations: the model's operations do what their signs tell (first part). -/
import Derived.Test.YtmkpiekbpakigaaDoorSymB
set_option linter.unusedVariables false
set_option linter.unusedSimpArgs false
namespace Go.Proofs.Sym
open Go.RowKit Go.Proofs.Base Go.Proofs.Mono

theorem Sub.facts {cx : Cx} {e : Env} {m : List (Nat × LB)} {k : Nat} {f : List (World → Prop)} {w : World} (h : Mem cx e m k f w) : AllF f w := h.fact
theorem reals_len (e : Env) (xs : List SA) : (reals e xs).length = xs.length := by simp [reals]
theorem reals_get (e : Env) (xs : List SA) (i : Nat) : (reals e xs)[i]? = (xs[i]?).map (SA.real e) := by simp [reals]
theorem add_off (g o i : Nat) : (⟨g, o, none⟩ : Addr).add i = ⟨g, o + i, none⟩ := by unfold Addr.add; split <;> simp_all
theorem size_of_val {T : Tab} {P : Program} (hT : T.Ok P) {t : Nat} {i : TyI} (h : get t T.ty = some i) : i.zero.length = i.size := (hT.ty _ (get_mem h)).2.2.1
theorem size_one {T : Tab} {P : Program} (hT : T.Ok P) {t : Nat} {i : TyI} (h : get t T.ty = some i) (ha : i.agg = false) : i.size = 1 := (hT.ty _ (get_mem h)).2.2.2.1 ha

theorem run_loadVar_one {P : Program} {t : TypeId} {w : World} {a : Addr} {v : Value} (ha : (isAgg t).run P w = .ok false w) (hc : w.cell? a = some v) : (loadVar t a).run P w = .ok v w := by
  simp [loadVar, ha, hc]
theorem run_loadVar_agg {P : Program} {t : TypeId} {w : World} {a : Addr} {cs : List Value} (ha : (isAgg t).run P w = .ok true w) (hs : (sizeOf t).run P w = .ok cs.length w) (hc : ∀ j u, cs[j]? = some u → w.cell? (a.add j) = some u) : (loadVar t a).run P w = .ok (.agg cs.toArray) w := by
  simp [loadVar, ha, hs, run_loadCells_list w a cs hc]

section
variable {P : Program} {T : Tab} {cx : Cx} {e : Env} {st : St} {o : Oper} {a : Act} {w : World}

theorem sigMove_ok (hS : Sat cx e st a w) {x : Operand} (ho : o.op = .move x ∨ o.op = .assign x) : SigOk P e st o a w (sigMove st x) := by
  unfold sigMove
  split
  · rename_i v hv
    obtain ⟨h1, h2⟩ := hS.ev hv
    refine ⟨h1, ?_⟩
    rcases ho with ho | ho <;> simp [execOp, ho, h2]
  · trivial
theorem sigPick_ok (hS : Sat cx e st a w) {c x y : Operand} (ho : o.op = .pick c x y) : SigOk P e st o a w (sigPick st c x y) := by
  unfold sigPick
  split
  · rename_i hc
    obtain ⟨_, h2⟩ := hS.ev hc
    unfold sigMove
    split
    · rename_i v hv
      obtain ⟨h3, h4⟩ := hS.ev hv
      refine ⟨h3, ?_⟩
      simp [execOp, ho, h2, h4, SV.real, SA.real, asBool]
    · trivial
  · rename_i hc
    obtain ⟨_, h2⟩ := hS.ev hc
    unfold sigMove
    split
    · rename_i v hv
      obtain ⟨h3, h4⟩ := hS.ev hv
      refine ⟨h3, ?_⟩
      simp [execOp, ho, h2, h4, SV.real, SA.real, asBool]
    · trivial
  · trivial
theorem sigAlloc_ok (hT : T.Ok P) (hS : Sat cx e st a w) {t : TypeId} (ho : o.op = .alloc t) : SigOk P e st o a w (sigAlloc T st t) := by
  unfold sigAlloc
  split
  · rename_i i hi
    refine ⟨Nat.lt_succ_self _, fun c hc => ?_, ?_⟩
    · obtain ⟨u, hu, rfl⟩ := List.mem_map.1 hc
      exact (hT.ty _ (get_mem hi)).2.2.2.2 u hu
    · simp only [execOp, ho, Instr.alloc, Sem.run_bind, hT.zero hi, Result.andThen_ok, newVar, newRow, run_newObj, Sem.run_pure, hT.cells hi, map_plain]
      simp only [SV.real, SA.real, Env.setBlk_self]
      rfl
  · trivial
theorem sigBox_ok (hS : Sat cx e st a w) {t : TypeId} {x : Operand} (ho : o.op = .box t x) : SigOk P e st o a w (sigBox st t x) := by
  unfold sigBox
  split
  · rename_i v hv
    split
    · rename_i cs hcs
      obtain ⟨h1, h2⟩ := hS.ev hv
      obtain ⟨h3, h4⟩ := cellsOf_ok hcs e h1
      refine ⟨Nat.lt_succ_self _, h4, ?_⟩
      simp only [execOp, ho, Instr.box, Sem.run_bind, newVar, newRow, run_newObj, Result.andThen_ok, Sem.run_pure, h2, h3]
      simp only [SV.real, SA.real, Env.setBlk_self]
      rfl
    · trivial
  · trivial
theorem partOf_ok {i : TyI} {cs : List SA} {off : Nat} {v : SV} (h : partOf i cs off = some v) (e : Env) {k : Nat} (hl : ∀ c ∈ cs, c.lt k) : v.lt k ∧
    ((i.agg = true ∧ off + i.size ≤ cs.length ∧ v.real e = .agg (((reals e cs).drop off).take i.size).toArray) ∨ (i.agg = false ∧ (reals e cs)[off]? = some (v.real e))) := by
  unfold partOf at h
  split at h
  · rename_i ha
    split at h
    · rename_i hb
      cases h
      refine ⟨fun x hx => hl x (List.mem_of_mem_drop (List.mem_of_mem_take hx)), .inl ⟨ha, Nat.le_of_ble_eq_true hb, ?_⟩⟩
      simp [SV.real, reals, List.map_drop, List.map_take]
    · cases h
  · rename_i ha
    split at h
    · rename_i c hc
      cases h
      exact ⟨SA.lt0_of (hl c (List.mem_of_getElem? hc)), .inr ⟨ha, by rw [reals_get, hc]; rfl⟩⟩
    · cases h
theorem q_row {cx : Cx} {e : Env} {m : List (Nat × LB)} {k : Nat} {f : List (World → Prop)} {w : World} (h : Mem cx e m k f w) {j E z n : Nat} {xs : List Value} (hj : get j m = some (.own E z n xs)) (hn : 0 < n) :
    ∃ g, (e.row j).1 = some ⟨g, 0, none⟩ ∧ (e.row j).2.1 = n ∧ ∀ l u, xs[l]? = some u → w.cell? ⟨g, l, none⟩ = some u := by
  have h1 := h.own j E z n xs hj
  rcases h1.2 with ⟨hv, h0⟩ | ⟨g, cap, cur, hv, _, hh, _, _, hcs, ht⟩
  · omega
  · simp only [Env.rv, Value.slice.injEq] at hv
    refine ⟨g, hv.1, hv.2.1, fun l u hl => ?_⟩
    rw [cell_of_row w g l cur E (0, 0) hh]
    rw [← ht, List.getElem?_take] at hl
    split at hl
    · simpa using hl
    · cases hl
theorem q_pos {cx : Cx} {e : Env} {m : List (Nat × LB)} {k : Nat} {f : List (World → Prop)} {w : World} (h : Mem cx e m k f w) {j E z n : Nat} {xs : List Value} (hj : get j m = some (.own E z n xs)) {l : Nat} {u : Value} (hl : xs[l]? = some u) : 0 < n := by
  have h1 := (h.own j E z n xs hj).1
  rcases Nat.eq_zero_or_pos n with rfl | h2
  · have : xs = [] := List.eq_nil_of_length_eq_zero (by rw [h1, Nat.zero_mul])
    subst this
    simp at hl
  · exact h2
theorem sigLoad_ok (hT : T.Ok P) (hS : Sat cx e st a w) {t : TypeId} {x : Operand} (ho : o.op = .load t x) : SigOk P e st o a w (sigLoad T st t x) := by
  unfold sigLoad
  split
  · trivial
  rename_i i hi
  have hag := hT.isAgg hi w
  have hsz := hT.size hi w
  split
  · rename_i j off hx
    have h2 : a.eval x = .pointer (some ⟨e.blk j, off, none⟩) := (hS.ev hx).2
    split
    · rename_i t' cs hj
      split
      · rename_i v hv
        obtain ⟨h3, h4⟩ := partOf_ok hv e (hS.mem.sc _ _ hj).2
        have hb := hS.mem.cells _ _ _ hj
        refine ⟨h3, ?_⟩
        simp only [execOp, ho, Instr.loadAt, Sem.run_bind, h2, Instr.sureAddr, Sem.run_pure, Result.andThen_ok]
        rcases h4 with ⟨ha, hle, hv2⟩ | ⟨ha, hv2⟩
        · rw [ha] at hag
          rw [hv2, run_loadVar_agg (cs := ((reals e cs).drop off).take i.size) hag (by rw [hsz]; simp [reals_len]; omega) (fun l u hl => ?_)]
          · simp
          · rw [add_off, hb.cell]
            rw [List.getElem?_take] at hl
            split at hl
            · rw [List.getElem?_drop] at hl
              simpa using hl
            · cases hl
        · rw [ha] at hag
          rw [run_loadVar_one hag (v := v.real e) (by rw [hb.cell]; simpa using hv2)]
          simp
      · trivial
    · trivial
  · rename_i j off hx
    have h2 : a.eval x = .pointer ((e.row j).1.map fun a => ⟨a.block, off, none⟩) := (hS.ev hx).2
    split
    · rename_i E z n xs hj
      split
      · rename_i ha
        rw [ha] at hag
        rintro c ⟨hn, h1, h3, h4⟩
        refine ⟨fun y hy => ?_, ?_⟩
        · obtain ⟨u, hu, rfl⟩ := List.mem_map.1 hy
          exact h1 u hu
        · obtain ⟨g, hg, _, hc⟩ := q_row hS.mem hj hn
          simp only [execOp, ho, Instr.loadAt, Sem.run_bind, h2, SV.real, map_plain, hg, Option.map_some, Instr.sureAddr, Sem.run_pure, Result.andThen_ok]
          rw [run_loadVar_agg (cs := c.cs) hag (by rw [hsz, h3]) (fun l u hl => by rw [add_off]; exact hc _ _ (h4 l u hl))]
          simp
      · rename_i ha
        rw [ha] at hag
        intro c hc
        refine ⟨trivial, ?_⟩
        obtain ⟨g, hg, _, hcell⟩ := q_row hS.mem hj (q_pos hS.mem hj hc)
        simp only [execOp, ho, Instr.loadAt, Sem.run_bind, h2, SV.real, SA.real, hg, Option.map_some, Instr.sureAddr, Sem.run_pure, Result.andThen_ok]
        rw [run_loadVar_one hag (hcell _ _ hc)]
        simp
    · trivial
  · rename_i y hx
    have h2 : a.eval x = y := (hS.ev hx).2
    split
    · rename_i ha
      rw [ha] at hag
      rintro c ⟨h1, h3, h4⟩
      obtain ⟨ad, rfl, hc⟩ := h4 w hS.mem.fact
      refine ⟨fun y hy => ?_, ?_⟩
      · obtain ⟨u, hu, rfl⟩ := List.mem_map.1 hy
        exact h1 u hu
      · simp only [execOp, ho, Instr.loadAt, Sem.run_bind, h2, SV.real, map_plain, Instr.sureAddr, Sem.run_pure, Result.andThen_ok]
        rw [run_loadVar_agg (cs := c.cs) hag (by rw [hsz, h3]) hc]
        simp
    · rename_i ha
      rw [ha] at hag
      intro c h4
      obtain ⟨ad, rfl, hc⟩ := h4 w hS.mem.fact
      refine ⟨trivial, ?_⟩
      simp only [execOp, ho, Instr.loadAt, Sem.run_bind, h2, SV.real, SA.real, Instr.sureAddr, Sem.run_pure, Result.andThen_ok]
      rw [run_loadVar_one hag hc]
      simp
  · trivial

theorem setCells_block (b : Nat) : ∀ (vs : List Value) (o : Nat) (w : World) (t : TypeId) (cs : List Value), Blk w b t cs.toArray → o + vs.length ≤ cs.length →
    Blk (w.setCells b o vs) b t (cs.take o ++ (vs ++ cs.drop (o + vs.length))).toArray
  | [], o, w, t, cs, h, hl => by simpa [World.setCells] using h
  | v :: r, o, w, t, cs, h, hl => by
    simp only [List.length_cons] at hl
    have h1 : Blk (w.setCell ⟨b, o, none⟩ v) b t (cs.set o v).toArray := by
      have := h.set_ o v
      rwa [List.setIfInBounds_toArray] at this
    have h2 := setCells_block b r (o + 1) _ t (cs.set o v) h1 (by simp; omega)
    simp only [World.setCells]
    have e1 : (cs.set o v).take (o + 1) = cs.take o ++ [v] := by
      rw [List.take_add_one, List.take_set_of_le (Nat.le_refl o), List.getElem?_set_self (by omega)]
      rfl
    have e2 : (cs.set o v).drop (o + 1 + r.length) = cs.drop (o + (v :: r).length) := by
      rw [List.drop_set_of_lt (by omega)]
      congr 1
      simp
      omega
    rw [e1, e2] at h2
    simpa using h2
theorem setCells_far (b : Nat) : ∀ (vs : List Value) (o : Nat) (w : World) (g : Nat), g ≠ b → (w.setCells b o vs).heap[g]? = w.heap[g]?
  | [], _, _, _, _ => rfl
  | v :: r, o, w, g, h => by
    simp only [World.setCells]
    rw [setCells_far b r (o + 1) _ g h]
    exact Below.heap_setCell w ⟨b, o, none⟩ v g h
theorem setCells_rest (b : Nat) : ∀ (vs : List Value) (o : Nat) (w : World), (w.setCells b o vs).os = w.os ∧ (w.setCells b o vs).tape = w.tape ∧ (w.setCells b o vs).output = w.output ∧ (w.setCells b o vs).heap.size = w.heap.size
  | [], _, _ => ⟨rfl, rfl, rfl, rfl⟩
  | v :: r, o, w => by
    simp only [World.setCells]
    obtain ⟨h1, h2, h3, h4⟩ := setCells_rest b r (o + 1) (w.setCell ⟨b, o, none⟩ v)
    exact ⟨h1, h2, h3, by rw [h4]; simp [World.setCell]⟩
theorem sigStore_ok (hT : T.Ok P) (hS : Sat cx e st a w) {t : TypeId} {x y : Operand} (ho : o.op = .store t x y) : SigOk P e st o a w (sigStore T st t x y) := by
  unfold sigStore
  split
  · rename_i ti i off v hi hx hy
    split
    · rename_i t' cs hj
      split
      · rename_i vs hvs
        split
        · rename_i hb1 hb2
          have h1 : vs.length = ti.size := by rw [← Nat.beq_eq]; exact hb1
          have h2 : off + vs.length ≤ cs.length := Nat.le_of_ble_eq_true hb2
          have hx2 : a.eval x = .pointer (some ⟨e.blk i, off, none⟩) := (hS.ev hx).2
          obtain ⟨hy1, hy2⟩ := hS.ev hy
          obtain ⟨hv1, hv2⟩ := cellsOf_ok hvs e hy1
          have hb := hS.mem.cells _ _ _ hj
          have hsc := (hS.mem.sc _ _ hj).2
          refine ⟨⟨_, hj⟩, fun c hc => ?_, w.setCells (e.blk i) off (reals e vs), ?_, ?_⟩
          · rcases List.mem_append.1 hc with hc | hc
            · exact hsc c (List.mem_of_mem_take hc)
            · rcases List.mem_append.1 hc with hc | hc
              · exact hv2 c hc
              · exact hsc c (List.mem_of_mem_drop hc)
          · have hst := run_storeCells_cells (P := P) (e.blk i) off (reals e vs) 0 w (fun l hl => by
                rw [hb.cell]
                have : off + 0 + l < (reals e cs).length := by simp only [reals_len] at hl ⊢; omega
                rw [List.getElem?_toArray, List.getElem?_eq_getElem this]; rfl) (fun l hl => hb.frozen _) (fun u hu => by
                obtain ⟨c, hc, rfl⟩ := List.mem_map.1 hu
                exact one_real e (hv2 c hc))
            simp only [execOp, ho, Instr.storeAt, storeVar, Sem.run_bind, hx2, hy2, Instr.sureAddr, Sem.run_pure, Result.andThen_ok, hT.size hi, hv1]
            simp only [List.size_toArray, reals_len, h1, ne_eq, not_true_eq_false, if_false, Sem.run_pure, Result.andThen_ok]
            rw [hst]
            simp
          · refine ⟨?_, fun g hg => setCells_far _ _ _ _ _ hg, (setCells_rest _ _ _ _).1, (setCells_rest _ _ _ _).2.1, (setCells_rest _ _ _ _).2.2.1, (setCells_rest _ _ _ _).2.2.2⟩
            have := setCells_block (e.blk i) (reals e vs) off w t' (reals e cs) hb (by simp only [reals_len]; exact h2)
            simpa [reals, List.map_take, List.map_drop] using this
        · trivial
      · trivial
    · trivial
  · trivial
theorem sigFieldAddr_ok (hT : T.Ok P) (hS : Sat cx e st a w) {t : TypeId} {x : Operand} {j : Nat} (ho : o.op = .fieldAddr t x j) : SigOk P e st o a w (sigFieldAddr T st t x j) := by
  unfold sigFieldAddr
  split
  · trivial
  rename_i fs hfs
  split
  · trivial
  rename_i off ft hf
  split
  · trivial
  rename_i ti hti
  obtain ⟨gs, hg1, hg2⟩ := hT.fld _ (get_mem hfs)
  simp only at hg1 hg2
  have hgj : ∃ f, gs[j]? = some f ∧ f.offset = off ∧ f.type = ft := by
    rw [← hg2] at hf
    simp only [List.getElem?_map, Array.getElem?_toList] at hf
    cases hq : gs[j]? with
    | none => rw [hq] at hf; simp at hf
    | some f =>
      rw [hq] at hf
      simp only [Option.map_some, Option.some.injEq, Prod.mk.injEq] at hf
      exact ⟨f, rfl, hf⟩
  obtain ⟨f, hf1, hf2, hf3⟩ := hgj
  have hsz := hT.size hti w
  split
  · rename_i q i o' hq hx
    have hx2 : a.eval x = .pointer (some ⟨e.blk i, o', none⟩) := (hS.ev hx).2
    refine ⟨(hS.ev hx).1, ?_⟩
    simp only [execOp, ho, Instr.fieldAt, Sem.run_bind, run_underlying hg1, Result.andThen_ok, hf1, hx2, Instr.sureAddr, Sem.run_pure, fieldPlace, hf3, hsz, hq, hf2]
    simp [SV.real, SA.real, add_off]
  · rename_i q ad hq hx
    have hx2 : a.eval x = .pointer (some ad) := (hS.ev hx).2
    refine ⟨trivial, ?_⟩
    simp only [execOp, ho, Instr.fieldAt, Sem.run_bind, run_underlying hg1, Result.andThen_ok, hf1, hx2, Instr.sureAddr, Sem.run_pure, fieldPlace, hf3, hsz, hq, hf2]
    simp [SV.real, SA.real]
  · trivial
theorem run_part {ti : TyI} {ft : TypeId} (hT : T.Ok P) (hti : get ft T.ty = some ti) {cs : List SA} {off : Nat} {u : SV} (hu : partOf ti cs off = some u) (e : Env) {k : Nat} (hl : ∀ c ∈ cs, c.lt k) (w : World) :
    (part ft (reals e cs).toArray off).run P w = .ok (u.real e) w := by
  obtain ⟨h3, h4⟩ := partOf_ok hu e hl
  simp only [part, Sem.run_bind, hT.isAgg hti, Result.andThen_ok]
  rcases h4 with ⟨ha, hle, hv2⟩ | ⟨ha, hv2⟩
  · simp only [ha, if_true, Sem.run_bind, hT.size hti, Result.andThen_ok, Sem.run_pure, hv2]
    congr 2
    apply Array.ext'
    simp [Array.toList_extract, List.extract_eq_take_drop]
  · simp only [ha, Bool.false_eq_true, if_false, List.getElem?_toArray, hv2, Sem.run_pure]
theorem sigField_ok (hT : T.Ok P) (hS : Sat cx e st a w) {t : TypeId} {x : Operand} {j : Nat} (ho : o.op = .field t x j) : SigOk P e st o a w (sigField T st t x j) := by
  unfold sigField
  split
  · trivial
  rename_i fs hfs
  split
  · trivial
  rename_i off ft hf
  obtain ⟨gs, hg1, hg2⟩ := hT.fld _ (get_mem hfs)
  simp only at hg1 hg2
  have hgj : ∃ f, gs[j]? = some f ∧ f.offset = off ∧ f.type = ft := by
    rw [← hg2] at hf
    simp only [List.getElem?_map, Array.getElem?_toList] at hf
    cases hq : gs[j]? with
    | none => rw [hq] at hf; simp at hf
    | some f =>
      rw [hq] at hf
      simp only [Option.map_some, Option.some.injEq, Prod.mk.injEq] at hf
      exact ⟨f, rfl, hf⟩
  obtain ⟨f, hf1, hf2, hf3⟩ := hgj
  split
  · rename_i ti v hti hx
    split
    · rename_i cs hcs
      split
      · rename_i u hu
        obtain ⟨h1, h2⟩ := hS.ev hx
        obtain ⟨h3, h4⟩ := aggOf_ok hcs e h1
        refine ⟨(partOf_ok hu e h4).1, ?_⟩
        simp only [execOp, ho, Instr.field, Sem.run_bind, run_underlying hg1, Result.andThen_ok, hf1, h2, h3, asAgg, Sem.run_pure, hf2, hf3, run_part hT hti hu e h4]
      · trivial
    · trivial
  · trivial
theorem sigIndexAddr_ok (hT : T.Ok P) (hS : Sat cx e st a w) {t : TypeId} {x ix : Operand} (ho : o.op = .indexAddr t x ix) : SigOk P e st o a w (sigIndexAddr T st t x ix) := by
  unfold sigIndexAddr
  split
  · rename_i E hu
    have hu := hT.u _ (get_mem hu)
    simp only at hu
    split
    · rename_i ti A n c k i hti hx hix
      have hx2 : a.eval x = .slice A n c := (hS.ev hx).2
      have hi2 : a.eval ix = .int k i := (hS.ev hix).2
      rintro ch ⟨rfl, hn, hA⟩
      obtain ⟨ad, rfl⟩ := Option.isSome_iff_exists.1 (hA w hS.mem.fact)
      refine ⟨trivial, ?_⟩
      simp only [execOp, ho, Instr.indexAt, Sem.run_bind, hx2, hi2, asIntOf, Sem.run_pure, Result.andThen_ok, run_underlying hu]
      rw [if_pos ⟨by omega, by omega⟩]
      simp [hT.size hti, SV.real, SA.real]
    · rename_i ti j o' n c k i hti hx hix
      have hx2 : a.eval x = .slice (some ⟨e.blk j, o', none⟩) n c := (hS.ev hx).2
      have hi2 : a.eval ix = .int k i := (hS.ev hix).2
      rintro ch ⟨rfl, hn⟩
      refine ⟨(hS.ev hx).1, ?_⟩
      simp only [execOp, ho, Instr.indexAt, Sem.run_bind, hx2, hi2, asIntOf, Sem.run_pure, Result.andThen_ok, run_underlying hu]
      rw [if_pos ⟨by omega, by omega⟩]
      simp [hT.size hti, SV.real, SA.real, add_off]
    · rename_i ti j k i hti hx hix
      split
      · rename_i E' z n xs hj
        have hx2 : a.eval x = e.rv j := (hS.ev hx).2
        have hi2 : a.eval ix = .int k i := (hS.ev hix).2
        rintro ch ⟨rfl, hn, rfl⟩
        obtain ⟨g, hg, hg2, hc⟩ := q_row hS.mem hj (by omega)
        refine ⟨(hS.ev hx).1, ?_⟩
        simp only [execOp, ho, Instr.indexAt, Sem.run_bind, hx2, Env.rv, hg, hg2, hi2, asIntOf, Sem.run_pure, Result.andThen_ok, run_underlying hu]
        rw [if_pos ⟨by omega, by omega⟩]
        simp [hT.size hti, SV.real, SA.real, add_off, hg]
      · trivial
    · trivial
  · rename_i n E hu
    have hu := hT.u _ (get_mem hu)
    simp only at hu
    split
    · rename_i ti j o' k i hti hx hix
      have hx2 : a.eval x = .pointer (some ⟨e.blk j, o', none⟩) := (hS.ev hx).2
      have hi2 : a.eval ix = .int k i := (hS.ev hix).2
      rintro ch ⟨rfl, hn⟩
      refine ⟨(hS.ev hx).1, ?_⟩
      simp only [execOp, ho, Instr.indexAt, Sem.run_bind, hx2, hi2, asIntOf, Sem.run_pure, Result.andThen_ok, run_underlying hu, Instr.sureAddr]
      rw [if_pos ⟨by omega, by omega⟩]
      simp [hT.size hti, SV.real, SA.real, add_off]
    · trivial
  · trivial
theorem sigIndex_ok (hT : T.Ok P) (hS : Sat cx e st a w) {t : TypeId} {x ix : Operand} (ho : o.op = .index t x ix) : SigOk P e st o a w (sigIndex T st t x ix) := by
  unfold sigIndex
  split
  · rename_i n E v k i hu hx hix
    have hu := hT.u _ (get_mem hu)
    simp only at hu
    split
    · rename_i ti cs hti hcs
      have hi2 : a.eval ix = .int k i := (hS.ev hix).2
      obtain ⟨h1, h2⟩ := hS.ev hx
      obtain ⟨h3, h4⟩ := aggOf_ok hcs e h1
      rintro ch ⟨rfl, hn, hs⟩
      obtain ⟨u, hu2⟩ := Option.isSome_iff_exists.1 hs
      simp only [hu2, Option.getD_some]
      refine ⟨(partOf_ok hu2 e h4).1, ?_⟩
      simp only [execOp, ho, Instr.index, Sem.run_bind, h2, h3, hi2, asIntOf, Sem.run_pure, Result.andThen_ok, run_underlying hu]
      rw [if_pos ⟨by omega, by omega⟩]
      simp [hT.size hti, run_part hT hti hu2 e h4]
    · trivial
  · rename_i s k i hu hx hix
    have hu := hT.u _ (get_mem hu)
    simp only at hu
    have hx2 : a.eval x = .string s := (hS.ev hx).2
    have hi2 : a.eval ix = .int k i := (hS.ev hix).2
    rintro ch ⟨rfl, hn⟩
    refine ⟨trivial, ?_⟩
    simp only [execOp, ho, Instr.index, Sem.run_bind, hx2, hi2, asIntOf, Sem.run_pure, Result.andThen_ok, run_underlying hu]
    rw [if_pos (by omega)]
    have hb : s[((ch.n : Int)).toNat]? = some (s.data.toList.getD ch.n 0) := by
      simp only [Int.toNat_natCast]
      rw [getElem?_pos s ch.n hn]
      congr 1
      simp [List.getD, ByteArray.getElem_eq_getElem_data]
      rw [Array.getElem?_eq_getElem (by simpa using hn)]
      rfl
    rw [hb]
    simp [SV.real, SA.real]
  · trivial
end
end Go.Proofs.Sym
