/- The types that the walks name. -/
import Derived.Test.YtmkpiekbpakigaaDoorSymI
import Derived.Test.YtmkpiekbpakigaaDoorRows
import Derived.Laws.StructEq
import Derived.WalkKit
set_option linter.unusedVariables false
set_option maxRecDepth 20000
namespace Go.Proofs.YtmkpiekbpakigaaDoor
open Go.RowKit Go.Proofs.Base Go.Proofs.Sym
def tab : Tab := { ty := [(3, ⟨1, 8, false, [Value.int IntKind.i64 0]⟩), (4, ⟨1, 1, false, [Value.bool false]⟩), (5, ⟨1, 1, false, [Value.int IntKind.u8 0]⟩), (9, ⟨1, 16, false, [Value.string { data := #[] }]⟩), (20, ⟨1, 16, false, [Value.nilIface]⟩), (22, ⟨4, 32, true, [Value.int IntKind.i64 0, Value.int IntKind.i64 0, Value.int IntKind.i64 0, Value.int IntKind.i64 0]⟩), (24, ⟨5, 40, true, [Value.int IntKind.i64 0, Value.int IntKind.i64 0, Value.int IntKind.i64 0, Value.int IntKind.i64 0, Value.int IntKind.i64 0]⟩), (25, ⟨1, 24, false, [Value.slice none 0 0]⟩), (32, ⟨1, 24, false, [Value.slice none 0 0]⟩), (37, ⟨1, 24, false, [Value.slice none 0 0]⟩), (39, ⟨1, 24, false, [Value.slice none 0 0]⟩), (41, ⟨5, 80, true, [Value.int IntKind.i64 0, Value.int IntKind.i64 0, Value.string { data := #[] }, Value.slice none 0 0, Value.slice none 0 0]⟩), (42, ⟨1, 24, false, [Value.slice none 0 0]⟩), (44, ⟨15, 224, true, [Value.int IntKind.i64 0, Value.int IntKind.i64 0, Value.string { data := #[] }, Value.int IntKind.i64 0, Value.int IntKind.i64 0, Value.string { data := #[] }, Value.slice none 0 0, Value.slice none 0 0, Value.int IntKind.i64 0, Value.int IntKind.i64 0, Value.string { data := #[] }, Value.slice none 0 0, Value.slice none 0 0, Value.int IntKind.i64 0, Value.slice none 0 0]⟩), (46, ⟨1, 24, false, [Value.slice none 0 0]⟩), (55, ⟨1, 8, false, [Value.nilFunc]⟩), (75, ⟨1, 24, false, [Value.slice none 0 0]⟩), (93, ⟨6, 96, true, [Value.string { data := #[] }, Value.int IntKind.i64 0, Value.int IntKind.i64 0, Value.string { data := #[] }, Value.slice none 0 0, Value.slice none 0 0]⟩), (102, ⟨2, 32, true, [Value.slice none 0 0, Value.int IntKind.i64 0]⟩), (110, ⟨1, 24, false, [Value.slice none 0 0]⟩), (114, ⟨6, 96, true, [Value.string { data := #[] }, Value.int IntKind.i64 0, Value.int IntKind.i64 0, Value.string { data := #[] }, Value.slice none 0 0, Value.slice none 0 0]⟩), (116, ⟨1, 8, false, [Value.nilFunc]⟩), (117, ⟨1, 8, false, [Value.nilFunc]⟩), (143, ⟨0, 0, true, []⟩), (166, ⟨0, 0, true, []⟩), (191, ⟨3, 24, true, [Value.int IntKind.i64 0, Value.int IntKind.i64 0, Value.int IntKind.i64 0]⟩), (192, ⟨30, 240, true, [Value.int IntKind.i64 0, Value.int IntKind.i64 0, Value.int IntKind.i64 0, Value.int IntKind.i64 0, Value.int IntKind.i64 0, Value.int IntKind.i64 0, Value.int IntKind.i64 0, Value.int IntKind.i64 0, Value.int IntKind.i64 0, Value.int IntKind.i64 0, Value.int IntKind.i64 0, Value.int IntKind.i64 0, Value.int IntKind.i64 0, Value.int IntKind.i64 0, Value.int IntKind.i64 0, Value.int IntKind.i64 0, Value.int IntKind.i64 0, Value.int IntKind.i64 0, Value.int IntKind.i64 0, Value.int IntKind.i64 0, Value.int IntKind.i64 0, Value.int IntKind.i64 0, Value.int IntKind.i64 0, Value.int IntKind.i64 0, Value.int IntKind.i64 0, Value.int IntKind.i64 0, Value.int IntKind.i64 0, Value.int IntKind.i64 0, Value.int IntKind.i64 0, Value.int IntKind.i64 0]⟩)], u := [(3, TypeDesc.int IntKind.i64), (4, TypeDesc.bool), (5, TypeDesc.int IntKind.u8), (9, TypeDesc.string), (20, TypeDesc.interface #[]), (22, TypeDesc.array 4 3), (25, TypeDesc.slice 3), (32, TypeDesc.slice 24), (37, TypeDesc.slice 5), (39, TypeDesc.slice 41), (42, TypeDesc.slice 93), (46, TypeDesc.slice 44), (55, TypeDesc.func #[41] #[4] false), (75, TypeDesc.slice 9), (110, TypeDesc.slice 114), (116, TypeDesc.func #[41, 3] #[41, 4] false), (117, TypeDesc.func #[41, 3] #[41, 4] false), (192, TypeDesc.array 10 191)], fld := [(24, [(0, 3), (1, 22)]), (41, [(0, 3), (1, 3), (2, 9), (3, 32), (4, 39)]), (44, [(0, 3), (1, 3), (2, 9), (3, 41), (8, 41), (13, 3), (14, 42)]), (93, [(0, 9), (1, 41)]), (102, [(0, 37), (1, 3)]), (114, [(0, 9), (1, 41)]), (143, []), (166, []), (191, [(0, 3), (1, 3), (2, 3)])], eqs := [(24, 5)] }
theorem tab_ty : ∀ p ∈ tab.ty, (Tryd.prog.info? p.1).map (fun f => (f.size, f.bytes, f.zero)) = some (p.2.size, p.2.bytes, some p.2.val) ∧ (Tryd.prog.underlying p.1).map isAggD = some p.2.agg ∧ p.2.zero.length = p.2.size ∧ (p.2.agg = false → p.2.size = 1) ∧ (∀ v ∈ p.2.zero, v.oneCell' = true) :=
  List.forall_mem_cons.2 ⟨⟨by kernel_rfl, by kernel_rfl, rfl, (by decide), (by decide)⟩, List.forall_mem_cons.2 ⟨⟨by kernel_rfl, by kernel_rfl, rfl, (by decide), (by decide)⟩, List.forall_mem_cons.2 ⟨⟨by kernel_rfl, by kernel_rfl, rfl, (by decide), (by decide)⟩, List.forall_mem_cons.2 ⟨⟨by kernel_rfl, by kernel_rfl, rfl, (by decide), (by decide)⟩, List.forall_mem_cons.2 ⟨⟨by kernel_rfl, by kernel_rfl, rfl, (by decide), (by decide)⟩, List.forall_mem_cons.2 ⟨⟨by kernel_rfl, by kernel_rfl, rfl, (by decide), (by decide)⟩, List.forall_mem_cons.2 ⟨⟨by kernel_rfl, by kernel_rfl, rfl, (by decide), (by decide)⟩, List.forall_mem_cons.2 ⟨⟨by kernel_rfl, by kernel_rfl, rfl, (by decide), (by decide)⟩, List.forall_mem_cons.2 ⟨⟨by kernel_rfl, by kernel_rfl, rfl, (by decide), (by decide)⟩, List.forall_mem_cons.2 ⟨⟨by kernel_rfl, by kernel_rfl, rfl, (by decide), (by decide)⟩, List.forall_mem_cons.2 ⟨⟨by kernel_rfl, by kernel_rfl, rfl, (by decide), (by decide)⟩, List.forall_mem_cons.2 ⟨⟨by kernel_rfl, by kernel_rfl, rfl, (by decide), (by decide)⟩, List.forall_mem_cons.2 ⟨⟨by kernel_rfl, by kernel_rfl, rfl, (by decide), (by decide)⟩, List.forall_mem_cons.2 ⟨⟨by kernel_rfl, by kernel_rfl, rfl, (by decide), (by decide)⟩, List.forall_mem_cons.2 ⟨⟨by kernel_rfl, by kernel_rfl, rfl, (by decide), (by decide)⟩, List.forall_mem_cons.2 ⟨⟨by kernel_rfl, by kernel_rfl, rfl, (by decide), (by decide)⟩, List.forall_mem_cons.2 ⟨⟨by kernel_rfl, by kernel_rfl, rfl, (by decide), (by decide)⟩, List.forall_mem_cons.2 ⟨⟨by kernel_rfl, by kernel_rfl, rfl, (by decide), (by decide)⟩, List.forall_mem_cons.2 ⟨⟨by kernel_rfl, by kernel_rfl, rfl, (by decide), (by decide)⟩, List.forall_mem_cons.2 ⟨⟨by kernel_rfl, by kernel_rfl, rfl, (by decide), (by decide)⟩, List.forall_mem_cons.2 ⟨⟨by kernel_rfl, by kernel_rfl, rfl, (by decide), (by decide)⟩, List.forall_mem_cons.2 ⟨⟨by kernel_rfl, by kernel_rfl, rfl, (by decide), (by decide)⟩, List.forall_mem_cons.2 ⟨⟨by kernel_rfl, by kernel_rfl, rfl, (by decide), (by decide)⟩, List.forall_mem_cons.2 ⟨⟨by kernel_rfl, by kernel_rfl, rfl, (by decide), (by decide)⟩, List.forall_mem_cons.2 ⟨⟨by kernel_rfl, by kernel_rfl, rfl, (by decide), (by decide)⟩, List.forall_mem_cons.2 ⟨⟨by kernel_rfl, by kernel_rfl, rfl, (by decide), (by decide)⟩, List.forall_mem_cons.2 ⟨⟨by kernel_rfl, by kernel_rfl, rfl, (by decide), (by decide)⟩, fun _ h => (by cases h)⟩⟩⟩⟩⟩⟩⟩⟩⟩⟩⟩⟩⟩⟩⟩⟩⟩⟩⟩⟩⟩⟩⟩⟩⟩⟩⟩
theorem tab_u : ∀ p ∈ tab.u, Tryd.prog.underlying p.1 = some p.2 :=
  List.forall_mem_cons.2 ⟨by kernel_rfl, List.forall_mem_cons.2 ⟨by kernel_rfl, List.forall_mem_cons.2 ⟨by kernel_rfl, List.forall_mem_cons.2 ⟨by kernel_rfl, List.forall_mem_cons.2 ⟨by kernel_rfl, List.forall_mem_cons.2 ⟨by kernel_rfl, List.forall_mem_cons.2 ⟨by kernel_rfl, List.forall_mem_cons.2 ⟨by kernel_rfl, List.forall_mem_cons.2 ⟨by kernel_rfl, List.forall_mem_cons.2 ⟨by kernel_rfl, List.forall_mem_cons.2 ⟨by kernel_rfl, List.forall_mem_cons.2 ⟨by kernel_rfl, List.forall_mem_cons.2 ⟨by kernel_rfl, List.forall_mem_cons.2 ⟨by kernel_rfl, List.forall_mem_cons.2 ⟨by kernel_rfl, List.forall_mem_cons.2 ⟨by kernel_rfl, List.forall_mem_cons.2 ⟨by kernel_rfl, List.forall_mem_cons.2 ⟨by kernel_rfl, fun _ h => (by cases h)⟩⟩⟩⟩⟩⟩⟩⟩⟩⟩⟩⟩⟩⟩⟩⟩⟩⟩
theorem tab_fld : ∀ p ∈ tab.fld, ∃ gs, Tryd.prog.underlying p.1 = some (.struct gs) ∧ gs.toList.map (fun f => (f.offset, f.type)) = p.2 :=
  List.forall_mem_cons.2 ⟨⟨_, Tryd.underlying24, by kernel_rfl⟩, List.forall_mem_cons.2 ⟨⟨_, Tryd.underlying41, by kernel_rfl⟩, List.forall_mem_cons.2 ⟨⟨_, Tryd.underlying44, by kernel_rfl⟩, List.forall_mem_cons.2 ⟨⟨_, Tryd.underlying93, by kernel_rfl⟩, List.forall_mem_cons.2 ⟨⟨_, Tryd.underlying102, by kernel_rfl⟩, List.forall_mem_cons.2 ⟨⟨_, Tryd.underlying114, by kernel_rfl⟩, List.forall_mem_cons.2 ⟨⟨_, Tryd.underlying143, by kernel_rfl⟩, List.forall_mem_cons.2 ⟨⟨_, Tryd.underlying166, by kernel_rfl⟩, List.forall_mem_cons.2 ⟨⟨_, Tryd.underlying191, by kernel_rfl⟩, fun _ h => (by cases h)⟩⟩⟩⟩⟩⟩⟩⟩⟩

theorem eq22r (w : World) (x0 x1 x2 x3 y0 y1 y2 y3 : Int) :
  (Op.equalIn 9999 22 (.agg #[.int .i64 x0, .int .i64 x1, .int .i64 x2, .int .i64 x3]) (.agg #[.int .i64 y0, .int .i64 y1, .int .i64 y2, .int .i64 y3])).run Tryd.prog w = .ok (x0 == y0 && (x1 == y1 && (x2 == y2 && x3 == y3))) w := by
  have hs : (sizeOf 3).run Tryd.prog w = .ok 1 w := by kernel_rfl
  have e := fun (x y : Int) => run_equalIn_int (P := Tryd.prog) w 9997 3 .i64 .i64 x y Tryd.underlying3
  rw [Op.equalIn]
  simp [Sem.run_bind, run_underlying Tryd.underlying22, hs, List.range', part, go_sem, e]
  by_cases h0 : x0 = y0 <;> by_cases h1 : x1 = y1 <;> by_cases h2 : x2 = y2 <;> by_cases h3 : x3 = y3 <;> simp [h0, h1, h2, h3]
theorem eq24r (w : World) (x b0 b1 b2 b3 y c0 c1 c2 c3 : Int) :
  (Op.equalIn 10000 24 (.agg #[.int .i64 x, .int .i64 b0, .int .i64 b1, .int .i64 b2, .int .i64 b3]) (.agg #[.int .i64 y, .int .i64 c0, .int .i64 c1, .int .i64 c2, .int .i64 c3])).run Tryd.prog w = .ok (x == y && (b0 == c0 && (b1 == c1 && (b2 == c2 && b3 == c3)))) w := by
  have e2 := eq22r w
  have e3 := run_equalIn_int (P := Tryd.prog) w 9998 3 .i64 .i64 x y Tryd.underlying3
  rw [run_equalIn_agg (P := Tryd.prog) w 9999 24 _ _ Tryd.underlying24 (by kernel_rfl)]
  have s22 : (sizeOf 22).run Tryd.prog w = .ok 4 w := by kernel_rfl
  simp [Program.fieldsOf, Tryd.underlying24, Op.eqFields, part, go_sem, e2, e3, s22]
  by_cases h : x = y <;> by_cases h0 : b0 = c0 <;> by_cases h1 : b1 = c1 <;> by_cases h2 : b2 = c2 <;> by_cases h3 : b3 = c3 <;> simp [h, h0, h1, h2, h3]
theorem tab_eqs : ∀ p ∈ tab.eqs, ∀ (xs ys : List Value) (r : Bool) (w : World) (x y : Operand), xs.length = p.2 → eqInts xs ys = some r →
    (do eqGuard .eql p.1 x y (.agg xs.toArray) (.agg ys.toArray); binOp .eql p.1 (.agg xs.toArray) (.agg ys.toArray) : Sem Value).run Tryd.prog w = .ok (.bool r) w ∧
    (do eqGuard .neq p.1 x y (.agg xs.toArray) (.agg ys.toArray); binOp .neq p.1 (.agg xs.toArray) (.agg ys.toArray) : Sem Value).run Tryd.prog w = .ok (.bool !r) w := by
  refine List.forall_mem_cons.2 ⟨?_, fun _ h => (by cases h)⟩
  intro xs ys r w x y hl h
  have key : ∀ {xs ys : List Value} {r : Bool}, eqInts xs ys = some r → xs.length = ys.length ∧ ∀ v ∈ xs ++ ys, ∃ n, v = .int .i64 n := by
    intro xs
    induction xs with
    | nil => intro ys r h; cases ys with
      | nil => exact ⟨rfl, by simp⟩
      | cons u us => simp [eqInts] at h
    | cons v vs ih =>
      intro ys r h
      cases ys with
      | nil => cases v with
        | int k n => cases k <;> simp [eqInts] at h
        | _ => simp [eqInts] at h
      | cons u us =>
        unfold eqInts at h
        split at h
        · cases ‹_ :: _ = []›
        · rename_i q1 q2
          cases q1; cases q2
          split at h
          · rename_i r' hr'
            obtain ⟨h1, h2⟩ := ih hr'
            refine ⟨by simp [h1], fun z hz => ?_⟩
            simp only [List.cons_append, List.mem_cons, List.mem_append] at hz
            rcases hz with rfl | hz | rfl | hz
            · exact ⟨_, rfl⟩
            · exact h2 z (by simp [hz])
            · exact ⟨_, rfl⟩
            · exact h2 z (by simp [hz])
          · cases h
        · cases h
  obtain ⟨h1, h2⟩ := key h
  match xs, ys, hl, h1 with
  | [x0, x1, x2, x3, x4], [y0, y1, y2, y3, y4], _, _ =>
    obtain ⟨a0, rfl⟩ := h2 x0 (by simp)
    obtain ⟨a1, rfl⟩ := h2 x1 (by simp)
    obtain ⟨a2, rfl⟩ := h2 x2 (by simp)
    obtain ⟨a3, rfl⟩ := h2 x3 (by simp)
    obtain ⟨a4, rfl⟩ := h2 x4 (by simp)
    obtain ⟨b0, rfl⟩ := h2 y0 (by simp)
    obtain ⟨b1, rfl⟩ := h2 y1 (by simp)
    obtain ⟨b2, rfl⟩ := h2 y2 (by simp)
    obtain ⟨b3, rfl⟩ := h2 y3 (by simp)
    obtain ⟨b4, rfl⟩ := h2 y4 (by simp)
    have hr : r = (a0 == b0 && (a1 == b1 && (a2 == b2 && (a3 == b3 && a4 == b4)))) := by
      simp only [eqInts, Option.some.injEq] at h
      rw [← h]
      simp
      rfl
    have hm : Tryd.prog.eqGuardType Tryd.prog.depth 24 = false := by kernel_rfl
    constructor
    · rw [Sem.run_bind, run_eqGuard_agg w _ _ _ _ _ _ hm, Result.andThen_ok, run_eql_struct, eq24r, hr]
      rfl
    · rw [Sem.run_bind, run_eqGuard_agg w _ _ _ _ _ _ hm, Result.andThen_ok, run_neq_struct, eq24r, hr]
      rfl
theorem tabOk : tab.Ok Tryd.prog := ⟨by kernel_rfl, tab_ty, tab_u, tab_fld, tab_eqs⟩
end Go.Proofs.YtmkpiekbpakigaaDoor
