/- Symbolic operations: aggregates, and all signs in one; what an operation asks of the rest of the walk. -/
import Derived.Test.YtmkpiekbpakigaaDoorSymD
set_option linter.unusedVariables false
set_option linter.unusedSimpArgs false
namespace Go.Proofs.Sym
open Go.RowKit Go.Proofs.Base Go.Proofs.Mono

/-- Cells with others in place of some. -/
def fillS (place : Nat → Option (Nat × Nat)) (cs : List SA) : List (Nat × SV) → Option (List SA)
  | [] => some cs
  | (i, v) :: r => match place i, cellsOf v with
    | some (off, size), some vs => match Nat.beq vs.length size, Nat.ble (off + vs.length) cs.length with
      | true, true => fillS place (cs.take off ++ (vs ++ cs.drop (off + vs.length))) r
      | _, _ => none
    | _, _ => none
theorem fold_splice (vs : List Value) : ∀ (off k : Nat) (cs : List Value), off + k + vs.length ≤ cs.length →
    (vs.zipIdx k).foldl (fun (a : Array Value) (x : Value × Nat) => a.setIfInBounds (off + x.2) x.1) cs.toArray = (cs.take (off + k) ++ (vs ++ cs.drop (off + k + vs.length))).toArray := by
  induction vs with
  | nil => intro off k cs _; simp
  | cons v r ih =>
    intro off k cs h
    simp only [List.length_cons] at h
    simp only [List.zipIdx_cons, List.foldl_cons, List.setIfInBounds_toArray]
    rw [ih off (k + 1) (cs.set (off + k) v) (by simp; omega)]
    congr 1
    have e1 : (cs.set (off + k) v).take (off + (k + 1)) = cs.take (off + k) ++ [v] := by
      rw [show off + (k + 1) = off + k + 1 by omega, List.take_add_one, List.take_set_of_le (Nat.le_refl _), List.getElem?_set_self (by omega)]
      rfl
    have e2 : (cs.set (off + k) v).drop (off + (k + 1) + r.length) = cs.drop (off + k + (v :: r).length) := by
      rw [List.drop_set_of_lt (by omega)]
      congr 1
      simp
      omega
    rw [e1, e2]
    simp
theorem fillS_ok (place : Nat → Option (Nat × Nat)) (e : Env) {k : Nat} : ∀ {ps : List (Nat × SV)} {cs ds : List SA}, (∀ p ∈ ps, p.2.lt k) → (∀ c ∈ cs, c.lt k) → fillS place cs ps = some ds →
    Instr.fill place (reals e cs).toArray (ps.map fun p => (p.1, p.2.real e)) = some (reals e ds).toArray ∧ ds.length = cs.length ∧ ∀ c ∈ ds, c.lt k
  | [], cs, ds, _, hc, h => by cases h; exact ⟨rfl, rfl, hc⟩
  | (i, v) :: r, cs, ds, hp, hc, h => by
    simp only [fillS] at h
    split at h
    · rename_i off size vs hpl hvs
      split at h
      · rename_i hb1 hb2
        have h1 : vs.length = size := by rw [← Nat.beq_eq]; exact hb1
        have h2 : off + vs.length ≤ cs.length := Nat.le_of_ble_eq_true hb2
        obtain ⟨hv1, hv2⟩ := cellsOf_ok hvs e (hp (i, v) List.mem_cons_self)
        have hlt : ∀ c ∈ cs.take off ++ (vs ++ cs.drop (off + vs.length)), c.lt k := by
          intro c hm
          rcases List.mem_append.1 hm with hm | hm
          · exact hc c (List.mem_of_mem_take hm)
          · rcases List.mem_append.1 hm with hm | hm
            · exact hv2 c hm
            · exact hc c (List.mem_of_mem_drop hm)
        obtain ⟨h3, h4, h5⟩ := fillS_ok place e (fun p hm => hp p (List.mem_cons_of_mem _ hm)) hlt h
        refine ⟨?_, ?_, h5⟩
        · simp only [List.map_cons, Instr.fill, hpl, hv1]
          rw [if_neg (by simp [reals_len, h1]; omega)]
          rw [← h3]
          congr 1
          rw [← Array.foldl_toList, Array.toList_zipIdx]
          simp only
          have := fold_splice (reals e vs) off 0 (reals e cs) (by simp only [reals_len]; omega)
          simp only [Nat.add_zero] at this
          refine this.trans ?_
          simp [reals, List.map_take, List.map_drop]
        · rw [h4]
          simp
          omega
      · cases h
    · cases h
def repS (n : Nat) (z : List SA) : List SA := match n with
  | 0 => []
  | n + 1 => z ++ repS n z
theorem repS_len (z : List SA) : ∀ n, (repS n z).length = n * z.length
  | 0 => by simp [repS]
  | n + 1 => by simp [repS, repS_len z n, Nat.add_mul, Nat.add_comm]
theorem repS_get (z : List SA) (hz : 0 < z.length) : ∀ n i, i < n * z.length → (repS n z)[i]? = z[i % z.length]?
  | 0, i, h => by simp at h
  | n + 1, i, h => by
    simp only [repS]
    by_cases hi : i < z.length
    · rw [List.getElem?_append_left hi, Nat.mod_eq_of_lt hi]
    · rw [List.getElem?_append_right (by omega), repS_get z hz n (i - z.length) (by rw [Nat.add_mul] at h; omega)]
      congr 1
      exact (Nat.mod_eq_sub_mod (by omega)).symm
def partsS (s : List (Nat × SV)) (l : List (Nat × Operand)) : Option (List (Nat × SV)) := allSome (fun p => match ev s p.2 with | some v => some (p.1, v) | none => none) l
/-- Where a struct's fields lie. -/
def placeOf (T : Tab) (t : TypeId) (i : Nat) : Option (Nat × Nat) := match get t T.fld with
  | some fs => match fs[i]? with
    | some (off, ft) => match get ft T.ty with
      | some ti => some (off, ti.size)
      | none => none
    | none => none
  | none => none
/-- All fields are known. -/
def fieldsIn (T : Tab) : List (Nat × Nat) → Bool
  | [] => true
  | (_, ft) :: r => match get ft T.ty with
    | some _ => fieldsIn T r
    | none => false
def sigBuild (T : Tab) (st : St) (t : TypeId) (ps : List (Nat × Operand)) : Sig := match get t T.ty, get t T.fld, partsS st.s ps with
  | some ti, some fs, some vs => match fieldsIn T fs with
    | true => match fillS (placeOf T t) (ti.zero.map SA.v) vs with
      | some cs => .det (.agg cs)
      | none => .bad
    | false => .bad
  | some ti, none, some vs => match get t T.u with
    | some (.array _ E) => match get E T.ty with
      | some te => match fillS (fun i => some (i * te.size, te.size)) (ti.zero.map SA.v) vs with
        | some cs => .det (.agg cs)
        | none => .bad
      | none => .bad
    | _ => .bad
  | _, _, _ => .bad
def sigBuildSlice (T : Tab) (st : St) (t : TypeId) (len : Nat) (ps : List (Nat × Operand)) : Sig := match get t T.u, partsS st.s ps with
  | some (.slice E), some vs => match get E T.ty with
    | some te => match te.size, Nat.ble (len * te.size) 16777216 with
      | _ + 1, true => match fillS (fun i => some (i * te.size, te.size)) (repS len (te.zero.map SA.v)) vs with
        | some cs => .new (.one (.sl st.k 0 len len)) E cs
        | none => .bad
      | _, _ => .bad
    | none => .bad
  | _, _ => .bad
def sigPanic (st : St) (x : Operand) : Sig := match ev st.s x with
  | some (.one (.v (.iface t v))) => .pan (.iface t v)
  | _ => .bad
def sig (T : Tab) (st : St) (o : Oper) : Sig := match o.op with
  | .move x => sigMove st x
  | .assign x => sigMove st x
  | .pick c x y => sigPick st c x y
  | .alloc t => sigAlloc T st t
  | .box t x => sigBox st t x
  | .build t ps => sigBuild T st t ps.toList
  | .buildSlice t n ps => sigBuildSlice T st t n ps.toList
  | .load t x => sigLoad T st t x
  | .store t x y => sigStore T st t x y
  | .fieldAddr t x j => sigFieldAddr T st t x j
  | .field t x j => sigField T st t x j
  | .indexAddr t x i => sigIndexAddr T st t x i
  | .index t x i => sigIndex T st t x i
  | .binOp op t x y _ => sigBin T st op t x y
  | .unOp op _ x => sigUn st op x
  | .convert s d x => sigConv T st s d x
  | .extract x j => sigExtract st x j
  | .makeFunc f fs cs => sigFunc st f fs.toList cs.toList
  | .makeInterface t x => sigIface T st t x
  | .panic x => sigPanic st x
  | .call c => match c.callee with
    | .value f => sigCall st f c.args.toList
    | .builtin b => match b, c.args.toList, c.argTypes.toList with
      | .len, [x], [t] => sigLen T st t x
      | .min, [x, y], _ => sigMin st x y
      | .max, [x, y], _ => sigMax st x y
      | .append, [x, y], [t, t'] => match Nat.beq t t' with
        | true => sigAppend T st t x y
        | false => .bad
      | .panic, [x], _ => sigPanic st x
      | _, _, _ => .bad
    | _ => .bad
  | _ => .bad

section
variable {P : Program} {T : Tab} {cx : Cx} {e : Env} {st : St} {o : Oper} {a : Act} {w : World}
theorem partsS_ok (hS : Sat cx e st a w) {l : List (Nat × Operand)} {vs : List (Nat × SV)} (h : partsS st.s l = some vs) : l.map (fun p => (p.1, a.eval p.2)) = vs.map (fun p => (p.1, p.2.real e)) ∧ ∀ p ∈ vs, p.2.lt st.k := by
  refine ⟨allSome_ok _ _ (fun x y hy => ?_) h, allSome_mem (fun x y hy => ?_) h⟩
  · split at hy
    · rename_i v hv
      cases hy
      simp [(hS.ev hv).2]
    · cases hy
  · split at hy
    · rename_i v hv
      cases hy
      exact (hS.ev hv).1
    · cases hy
theorem zero_lt {k : Nat} (hT : T.Ok P) {t : Nat} {i : TyI} (h : get t T.ty = some i) : ∀ c ∈ i.zero.map SA.v, c.lt k := by
  intro c hc
  obtain ⟨u, hu, rfl⟩ := List.mem_map.1 hc
  exact (hT.ty _ (get_mem h)).2.2.2.2 u hu
theorem run_places (hT : T.Ok P) (w : World) : ∀ (gs : List Field), fieldsIn T (gs.map fun f => (f.offset, f.type)) = true → (gs.mapM (fun f => do pure (f.offset, ← sizeOf f.type)) : Sem (List (Nat × Nat))).run P w = .ok (gs.map fun f => (f.offset, ((get f.type T.ty).map (·.size)).getD 0)) w
  | [], _ => by simp
  | f :: r, h => by
    simp only [List.map_cons, fieldsIn] at h
    split at h
    · rename_i ti hti
      have ih := run_places hT w r h
      simp only [List.mapM_cons, Sem.run_bind, hT.size hti, Result.andThen_ok, Sem.run_pure, ih, List.map_cons, hti, Option.map_some, Option.getD_some]
    · cases h
theorem sigBuild_ok (hT : T.Ok P) (hS : Sat cx e st a w) {t : TypeId} {ps : Array (Nat × Operand)} (ho : o.op = .build t ps) : SigOk P e st o a w (sigBuild T st t ps.toList) := by
  unfold sigBuild
  split
  · rename_i ti fs vs hti hfs hvs
    obtain ⟨hp1, hp2⟩ := partsS_ok hS hvs
    split
    · rename_i hin
      split
      · rename_i cs hcs
        obtain ⟨gs, hg1, hg2⟩ := hT.fld _ (get_mem hfs)
        simp only at hg1 hg2
        obtain ⟨h1, h2, h3⟩ := fillS_ok (placeOf T t) e hp2 (zero_lt hT hti) hcs
        refine ⟨h3, ?_⟩
        have hpm : (ps.map fun x => (x.1, a.eval x.2)).toList = vs.map (fun p => (p.1, p.2.real e)) := by rw [Array.toList_map]; exact hp1
        have hpl := run_places hT w gs.toList (by rw [hg2]; exact hin)
        have hplA : (gs.mapM (fun f => do pure (f.offset, ← sizeOf f.type)) : Sem (Array (Nat × Nat))).run P w = .ok (gs.toList.map fun f => (f.offset, ((get f.type T.ty).map (·.size)).getD 0)).toArray w := by
          rw [Array.mapM_eq_mapM_toList, Sem.run_map, hpl]
          rfl
        have hplace : (fun i => ((gs.toList.map fun f => (f.offset, ((get f.type T.ty).map (·.size)).getD 0)).toArray)[i]?) = placeOf T t := by
          funext i
          unfold placeOf
          rw [hfs]
          simp only [List.getElem?_toArray]
          rw [← hg2]
          simp only [List.getElem?_map]
          cases hq : gs.toList[i]? with
          | none => rfl
          | some f =>
            simp only [Option.map_some]
            have hfi : ∀ {l : List (Nat × Nat)} {p : Nat × Nat}, fieldsIn T l = true → p ∈ l → ∃ ti, get p.2 T.ty = some ti := by
              intro l
              induction l with
              | nil => intro p _ hm; cases hm
              | cons q r ih =>
                intro p hl hm
                obtain ⟨q1, q2⟩ := q
                simp only [fieldsIn] at hl
                split at hl
                · rename_i ti hti
                  rcases List.mem_cons.1 hm with rfl | hm
                  · exact ⟨ti, hti⟩
                  · exact ih hl hm
                · cases hl
            obtain ⟨tf, htf⟩ := hfi hin (by rw [← hg2]; exact List.mem_map.2 ⟨f, List.mem_of_getElem? hq, rfl⟩)
            simp only at htf
            rw [htf]
            rfl
        simp only [execOp, ho, Instr.build, Sem.run_bind, hT.zero hti, Result.andThen_ok, run_underlying hg1, hplA, hT.cells hti, hplace]
        rw [show ti.zero = reals e (ti.zero.map SA.v) from (map_plain e _).symm, hpm, h1]
        simp [SV.real]
      · trivial
    · trivial
  · rename_i ti vs hti hfs hvs
    obtain ⟨hp1, hp2⟩ := partsS_ok hS hvs
    split
    · rename_i n E hu
      split
      · rename_i te hte
        split
        · rename_i cs hcs
          obtain ⟨h1, h2, h3⟩ := fillS_ok _ e hp2 (zero_lt hT hti) hcs
          refine ⟨h3, ?_⟩
          have hpm : (ps.map fun x => (x.1, a.eval x.2)).toList = vs.map (fun p => (p.1, p.2.real e)) := by rw [Array.toList_map]; exact hp1
          simp only [execOp, ho, Instr.build, Sem.run_bind, hT.zero hti, Result.andThen_ok, under_some hT hu, hT.cells hti, hT.size hte]
          rw [show ti.zero = reals e (ti.zero.map SA.v) from (map_plain e _).symm, hpm, h1]
          simp [SV.real]
        · trivial
      · trivial
    · trivial
  · trivial
theorem sigBuildSlice_ok (hT : T.Ok P) (hS : Sat cx e st a w) {t : TypeId} {n : Nat} {ps : Array (Nat × Operand)} (ho : o.op = .buildSlice t n ps) : SigOk P e st o a w (sigBuildSlice T st t n ps.toList) := by
  unfold sigBuildSlice
  split
  · rename_i E vs hu hvs
    obtain ⟨hp1, hp2⟩ := partsS_ok hS hvs
    split
    · rename_i te hte
      split
      · rename_i q hq hble
        split
        · rename_i cs hcs
          have hz := size_of_val hT hte
          have hzl : ∀ c ∈ repS n (te.zero.map SA.v), c.lt st.k := by
            have : ∀ m, ∀ c ∈ repS m (te.zero.map SA.v), c.lt st.k := by
              intro m
              induction m with
              | zero => intro c hc; cases hc
              | succ m ih =>
                intro c hc
                rcases List.mem_append.1 hc with hc | hc
                · exact zero_lt hT hte c hc
                · exact ih c hc
            exact this n
          obtain ⟨h1, h2, h3⟩ := fillS_ok _ e hp2 hzl hcs
          refine ⟨Nat.lt_succ_self _, h3, ?_⟩
          have hpm : (ps.map fun x => (x.1, a.eval x.2)).toList = vs.map (fun p => (p.1, p.2.real e)) := by rw [Array.toList_map]; exact hp1
          have hble := Nat.le_of_ble_eq_true hble
          have hrep : (Array.range (n * te.size)).map (fun x => te.zero.toArray[x % te.zero.toArray.size]!) = (reals e (repS n (te.zero.map SA.v))).toArray := by
            apply Array.ext'
            apply List.ext_getElem?
            intro i
            simp only [Array.toList_map, Array.toList_range, List.getElem?_map, List.size_toArray, hz]
            by_cases hi : i < n * te.size
            · rw [List.getElem?_range hi, reals_get, repS_get _ (by simp [hz]; omega) n i (by simpa [hz] using hi)]
              simp only [Option.map_some, List.length_map, hz, List.getElem?_map]
              have hm : i % te.size < te.zero.length := by rw [hz]; exact Nat.mod_lt _ (by omega)
              rw [List.getElem?_eq_getElem hm]
              simp [SA.real, hm]
            · rw [List.getElem?_eq_none (by simpa using hi), List.getElem?_eq_none (by simp [reals_len, repS_len, hz]; omega)]
              rfl
          have hrep2 : n * te.size = 0 → (Array.range (n * te.size)).map (fun x => (#[] : Array Value)[x % (#[] : Array Value).size]!) = (reals e (repS n (te.zero.map SA.v))).toArray := by
            intro h0
            have hn0 : n = 0 := by
              rcases Nat.mul_eq_zero.1 h0 with h | h
              · exact h
              · omega
            subst hn0
            simp [repS, reals]
          simp only [execOp, ho, Instr.buildSlice, Sem.run_bind, under_some hT hu, Result.andThen_ok, hT.size hte]
          rw [if_neg (by omega), hpm]
          by_cases h0 : n * te.size = 0
          · simp only [if_pos h0, Sem.run_bind, Sem.run_pure, Result.andThen_ok, hrep2 h0, h1]
            simp only [newRow, Sem.run_bind, run_newObj, Result.andThen_ok, Sem.run_pure, SV.real, SA.real, Env.setBlk_self]
            rfl
          · simp only [if_neg h0, Sem.run_bind, hT.zero hte, Sem.run_pure, Result.andThen_ok, hT.cells hte, hrep, h1]
            simp only [newRow, Sem.run_bind, run_newObj, Result.andThen_ok, Sem.run_pure, SV.real, SA.real, Env.setBlk_self]
            rfl
        · trivial
      · trivial
    · trivial
  · trivial
theorem sigPanic_ok (hS : Sat cx e st a w) {x : Operand} (hr : ∀ t v, a.eval x = .iface t v → (execOp a.eval o).run P w = .halt (.panic (.iface t v)) w) : SigOk P e st o a w (sigPanic st x) := by
  unfold sigPanic
  split
  · rename_i t v hx
    exact hr t v (hS.ev hx).2
  · trivial
theorem toList1 {α : Type} {xs : Array α} {l : List α} (h : xs.toList = l) : xs = l.toArray := by rw [← h]
theorem sig_ok (hT : T.Ok P) (hS : Sat cx e st a w) : SigOk P e st o a w (sig T st o) := by
  unfold sig
  cases ho : o.op <;> simp only <;> first | trivial | skip
  case move x => exact sigMove_ok hS (.inl ho)
  case assign x => exact sigMove_ok hS (.inr ho)
  case pick c x y => exact sigPick_ok hS ho
  case alloc t => exact sigAlloc_ok hT hS ho
  case box t x => exact sigBox_ok hS ho
  case build t ps => exact sigBuild_ok hT hS ho
  case buildSlice t n ps => exact sigBuildSlice_ok hT hS ho
  case load t x => exact sigLoad_ok hT hS ho
  case store t x y => exact sigStore_ok hT hS ho
  case fieldAddr t x j => exact sigFieldAddr_ok hT hS ho
  case field t x j => exact sigField_ok hT hS ho
  case indexAddr t x i => exact sigIndexAddr_ok hT hS ho
  case index t x i => exact sigIndex_ok hT hS ho
  case binOp op t x y yt => exact sigBin_ok hT hS ho
  case unOp op t x => exact sigUn_ok hS ho
  case convert s d x => exact sigConv_ok hT hS ho
  case extract x j => exact sigExtract_ok hS ho
  case makeFunc f fs cs => exact sigFunc_ok hS ho
  case makeInterface t x => exact sigIface_ok hT hS ho
  case panic x =>
    refine sigPanic_ok hS fun t v hx => ?_
    simp [execOp, ho, hx, Instr.panic]
  case call c =>
    obtain ⟨callee, args, ts⟩ := c
    cases callee with
    | value f => exact sigCall_ok hS ho
    | invoke r m => trivial
    | builtin b =>
      simp only
      split
      · rename_i x t h1 h2
        obtain rfl := toList1 h1
        obtain rfl := toList1 h2
        exact sigLen_ok hT hS ho
      · rename_i x y h1
        obtain rfl := toList1 h1
        exact sigMin_ok hS ho
      · rename_i x y h1
        obtain rfl := toList1 h1
        exact sigMax_ok hS ho
      · rename_i x y t t' h1 h2
        split
        · rename_i hb
          obtain rfl : t = t' := by rw [← Nat.beq_eq]; exact hb
          obtain rfl := toList1 h1
          obtain rfl := toList1 h2
          exact sigAppend_ok hT hS ho
        · trivial
      · rename_i x h1
        obtain rfl := toList1 h1
        refine sigPanic_ok hS fun t v hx => ?_
        simp [execOp, ho, resolve, invoke, builtin, hx, Instr.panic]
      · trivial
end
end Go.Proofs.Sym
