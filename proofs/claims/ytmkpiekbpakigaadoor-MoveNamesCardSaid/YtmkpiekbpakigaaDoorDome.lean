/- What the claim needs of Tab, LvP, SymJ, SymK, SymL, SymM, SymN, Tm1, Tm2, Lv17, Lv13, Tm3, in one text. -/
import Derived.Test.YtmkpiekbpakigaaDoorRows
import Derived.Laws.StructEq
import Derived.WalkKit
import Derived.IntWalk
import Derived.Test.YtmkpiekbpakigaaDoorDomb
import Derived.Test.YtmkpiekbpakigaaDoorDomd
section
set_option linter.unusedVariables false
set_option maxRecDepth 20000
namespace Go.Proofs.YtmkpiekbpakigaaDoor
open Go.RowKit Go.Proofs.Base Go.Proofs.Sym
def tab : Sym.Tab := { ty := [(3, ⟨1, 8, false, [Value.int IntKind.i64 0]⟩), (4, ⟨1, 1, false, [Value.bool false]⟩), (5, ⟨1, 1, false, [Value.int IntKind.u8 0]⟩), (9, ⟨1, 16, false, [Value.string { data := #[] }]⟩), (20, ⟨1, 16, false, [Value.nilIface]⟩), (22, ⟨4, 32, true, [Value.int IntKind.i64 0, Value.int IntKind.i64 0, Value.int IntKind.i64 0, Value.int IntKind.i64 0]⟩), (24, ⟨5, 40, true, [Value.int IntKind.i64 0, Value.int IntKind.i64 0, Value.int IntKind.i64 0, Value.int IntKind.i64 0, Value.int IntKind.i64 0]⟩), (25, ⟨1, 24, false, [Value.slice none 0 0]⟩), (32, ⟨1, 24, false, [Value.slice none 0 0]⟩), (37, ⟨1, 24, false, [Value.slice none 0 0]⟩), (39, ⟨1, 24, false, [Value.slice none 0 0]⟩), (41, ⟨5, 80, true, [Value.int IntKind.i64 0, Value.int IntKind.i64 0, Value.string { data := #[] }, Value.slice none 0 0, Value.slice none 0 0]⟩), (42, ⟨1, 24, false, [Value.slice none 0 0]⟩), (44, ⟨15, 224, true, [Value.int IntKind.i64 0, Value.int IntKind.i64 0, Value.string { data := #[] }, Value.int IntKind.i64 0, Value.int IntKind.i64 0, Value.string { data := #[] }, Value.slice none 0 0, Value.slice none 0 0, Value.int IntKind.i64 0, Value.int IntKind.i64 0, Value.string { data := #[] }, Value.slice none 0 0, Value.slice none 0 0, Value.int IntKind.i64 0, Value.slice none 0 0]⟩), (46, ⟨1, 24, false, [Value.slice none 0 0]⟩), (55, ⟨1, 8, false, [Value.nilFunc]⟩), (75, ⟨1, 24, false, [Value.slice none 0 0]⟩), (93, ⟨6, 96, true, [Value.string { data := #[] }, Value.int IntKind.i64 0, Value.int IntKind.i64 0, Value.string { data := #[] }, Value.slice none 0 0, Value.slice none 0 0]⟩), (102, ⟨2, 32, true, [Value.slice none 0 0, Value.int IntKind.i64 0]⟩), (110, ⟨1, 24, false, [Value.slice none 0 0]⟩), (114, ⟨6, 96, true, [Value.string { data := #[] }, Value.int IntKind.i64 0, Value.int IntKind.i64 0, Value.string { data := #[] }, Value.slice none 0 0, Value.slice none 0 0]⟩), (116, ⟨1, 8, false, [Value.nilFunc]⟩), (117, ⟨1, 8, false, [Value.nilFunc]⟩), (143, ⟨0, 0, true, []⟩), (166, ⟨0, 0, true, []⟩), (191, ⟨3, 24, true, [Value.int IntKind.i64 0, Value.int IntKind.i64 0, Value.int IntKind.i64 0]⟩), (192, ⟨30, 240, true, [Value.int IntKind.i64 0, Value.int IntKind.i64 0, Value.int IntKind.i64 0, Value.int IntKind.i64 0, Value.int IntKind.i64 0, Value.int IntKind.i64 0, Value.int IntKind.i64 0, Value.int IntKind.i64 0, Value.int IntKind.i64 0, Value.int IntKind.i64 0, Value.int IntKind.i64 0, Value.int IntKind.i64 0, Value.int IntKind.i64 0, Value.int IntKind.i64 0, Value.int IntKind.i64 0, Value.int IntKind.i64 0, Value.int IntKind.i64 0, Value.int IntKind.i64 0, Value.int IntKind.i64 0, Value.int IntKind.i64 0, Value.int IntKind.i64 0, Value.int IntKind.i64 0, Value.int IntKind.i64 0, Value.int IntKind.i64 0, Value.int IntKind.i64 0, Value.int IntKind.i64 0, Value.int IntKind.i64 0, Value.int IntKind.i64 0, Value.int IntKind.i64 0, Value.int IntKind.i64 0]⟩)], u := [(3, TypeDesc.int IntKind.i64), (4, TypeDesc.bool), (5, TypeDesc.int IntKind.u8), (9, TypeDesc.string), (20, TypeDesc.interface #[]), (22, TypeDesc.array 4 3), (25, TypeDesc.slice 3), (32, TypeDesc.slice 24), (37, TypeDesc.slice 5), (39, TypeDesc.slice 41), (42, TypeDesc.slice 93), (46, TypeDesc.slice 44), (55, TypeDesc.func #[41] #[4] false), (75, TypeDesc.slice 9), (110, TypeDesc.slice 114), (116, TypeDesc.func #[41, 3] #[41, 4] false), (117, TypeDesc.func #[41, 3] #[41, 4] false), (192, TypeDesc.array 10 191)], fld := [(24, [(0, 3), (1, 22)]), (41, [(0, 3), (1, 3), (2, 9), (3, 32), (4, 39)]), (44, [(0, 3), (1, 3), (2, 9), (3, 41), (8, 41), (13, 3), (14, 42)]), (93, [(0, 9), (1, 41)]), (102, [(0, 37), (1, 3)]), (114, [(0, 9), (1, 41)]), (143, []), (166, []), (191, [(0, 3), (1, 3), (2, 3)])], eqs := [(24, 5)] }
theorem zaaa : ∀ p ∈ tab.ty, (Tryd.prog.info? p.1).map (fun f => (f.size, f.bytes, f.zero)) = some (p.2.size, p.2.bytes, some p.2.val) /\ (Tryd.prog.underlying p.1).map zxl = some p.2.agg /\ p.2.zero.length = p.2.size /\ (p.2.agg = false -> p.2.size = 1) /\ (∀ v ∈ p.2.zero, v.oneCell' = true) :=
 List.forall_mem_cons.2 ⟨⟨by kernel_rfl, by kernel_rfl, rfl, (by decide), (by decide)⟩, List.forall_mem_cons.2 ⟨⟨by kernel_rfl, by kernel_rfl, rfl, (by decide), (by decide)⟩, List.forall_mem_cons.2 ⟨⟨by kernel_rfl, by kernel_rfl, rfl, (by decide), (by decide)⟩, List.forall_mem_cons.2 ⟨⟨by kernel_rfl, by kernel_rfl, rfl, (by decide), (by decide)⟩, List.forall_mem_cons.2 ⟨⟨by kernel_rfl, by kernel_rfl, rfl, (by decide), (by decide)⟩, List.forall_mem_cons.2 ⟨⟨by kernel_rfl, by kernel_rfl, rfl, (by decide), (by decide)⟩, List.forall_mem_cons.2 ⟨⟨by kernel_rfl, by kernel_rfl, rfl, (by decide), (by decide)⟩, List.forall_mem_cons.2 ⟨⟨by kernel_rfl, by kernel_rfl, rfl, (by decide), (by decide)⟩, List.forall_mem_cons.2 ⟨⟨by kernel_rfl, by kernel_rfl, rfl, (by decide), (by decide)⟩, List.forall_mem_cons.2 ⟨⟨by kernel_rfl, by kernel_rfl, rfl, (by decide), (by decide)⟩, List.forall_mem_cons.2 ⟨⟨by kernel_rfl, by kernel_rfl, rfl, (by decide), (by decide)⟩, List.forall_mem_cons.2 ⟨⟨by kernel_rfl, by kernel_rfl, rfl, (by decide), (by decide)⟩, List.forall_mem_cons.2 ⟨⟨by kernel_rfl, by kernel_rfl, rfl, (by decide), (by decide)⟩, List.forall_mem_cons.2 ⟨⟨by kernel_rfl, by kernel_rfl, rfl, (by decide), (by decide)⟩, List.forall_mem_cons.2 ⟨⟨by kernel_rfl, by kernel_rfl, rfl, (by decide), (by decide)⟩, List.forall_mem_cons.2 ⟨⟨by kernel_rfl, by kernel_rfl, rfl, (by decide), (by decide)⟩, List.forall_mem_cons.2 ⟨⟨by kernel_rfl, by kernel_rfl, rfl, (by decide), (by decide)⟩, List.forall_mem_cons.2 ⟨⟨by kernel_rfl, by kernel_rfl, rfl, (by decide), (by decide)⟩, List.forall_mem_cons.2 ⟨⟨by kernel_rfl, by kernel_rfl, rfl, (by decide), (by decide)⟩, List.forall_mem_cons.2 ⟨⟨by kernel_rfl, by kernel_rfl, rfl, (by decide), (by decide)⟩, List.forall_mem_cons.2 ⟨⟨by kernel_rfl, by kernel_rfl, rfl, (by decide), (by decide)⟩, List.forall_mem_cons.2 ⟨⟨by kernel_rfl, by kernel_rfl, rfl, (by decide), (by decide)⟩, List.forall_mem_cons.2 ⟨⟨by kernel_rfl, by kernel_rfl, rfl, (by decide), (by decide)⟩, List.forall_mem_cons.2 ⟨⟨by kernel_rfl, by kernel_rfl, rfl, (by decide), (by decide)⟩, List.forall_mem_cons.2 ⟨⟨by kernel_rfl, by kernel_rfl, rfl, (by decide), (by decide)⟩, List.forall_mem_cons.2 ⟨⟨by kernel_rfl, by kernel_rfl, rfl, (by decide), (by decide)⟩, List.forall_mem_cons.2 ⟨⟨by kernel_rfl, by kernel_rfl, rfl, (by decide), (by decide)⟩, fun _ h => (by cases h)⟩⟩⟩⟩⟩⟩⟩⟩⟩⟩⟩⟩⟩⟩⟩⟩⟩⟩⟩⟩⟩⟩⟩⟩⟩⟩⟩
theorem zabq : ∀ p ∈ tab.u, Tryd.prog.underlying p.1 = some p.2 :=
 List.forall_mem_cons.2 ⟨by kernel_rfl, List.forall_mem_cons.2 ⟨by kernel_rfl, List.forall_mem_cons.2 ⟨by kernel_rfl, List.forall_mem_cons.2 ⟨by kernel_rfl, List.forall_mem_cons.2 ⟨by kernel_rfl, List.forall_mem_cons.2 ⟨by kernel_rfl, List.forall_mem_cons.2 ⟨by kernel_rfl, List.forall_mem_cons.2 ⟨by kernel_rfl, List.forall_mem_cons.2 ⟨by kernel_rfl, List.forall_mem_cons.2 ⟨by kernel_rfl, List.forall_mem_cons.2 ⟨by kernel_rfl, List.forall_mem_cons.2 ⟨by kernel_rfl, List.forall_mem_cons.2 ⟨by kernel_rfl, List.forall_mem_cons.2 ⟨by kernel_rfl, List.forall_mem_cons.2 ⟨by kernel_rfl, List.forall_mem_cons.2 ⟨by kernel_rfl, List.forall_mem_cons.2 ⟨by kernel_rfl, List.forall_mem_cons.2 ⟨by kernel_rfl, fun _ h => (by cases h)⟩⟩⟩⟩⟩⟩⟩⟩⟩⟩⟩⟩⟩⟩⟩⟩⟩⟩
theorem zyn : ∀ p ∈ tab.fld, ∃ gs, Tryd.prog.underlying p.1 = some (.struct gs) /\ gs.toList.map (fun f => (f.offset, f.type)) = p.2 :=
 List.forall_mem_cons.2 ⟨⟨_, Tryd.underlying24, by kernel_rfl⟩, List.forall_mem_cons.2 ⟨⟨_, Tryd.underlying41, by kernel_rfl⟩, List.forall_mem_cons.2 ⟨⟨_, Tryd.underlying44, by kernel_rfl⟩, List.forall_mem_cons.2 ⟨⟨_, Tryd.underlying93, by kernel_rfl⟩, List.forall_mem_cons.2 ⟨⟨_, Tryd.underlying102, by kernel_rfl⟩, List.forall_mem_cons.2 ⟨⟨_, Tryd.underlying114, by kernel_rfl⟩, List.forall_mem_cons.2 ⟨⟨_, Tryd.underlying143, by kernel_rfl⟩, List.forall_mem_cons.2 ⟨⟨_, Tryd.underlying166, by kernel_rfl⟩, List.forall_mem_cons.2 ⟨⟨_, Tryd.underlying191, by kernel_rfl⟩, fun _ h => (by cases h)⟩⟩⟩⟩⟩⟩⟩⟩⟩
theorem zabm (w : World) (x0 x1 x2 x3 y0 y1 y2 y3 : Int) :
 (Op.equalIn 9999 22 (.agg #[.int .i64 x0, .int .i64 x1, .int .i64 x2, .int .i64 x3]) (.agg #[.int .i64 y0, .int .i64 y1, .int .i64 y2, .int .i64 y3])).run Tryd.prog w = .ok (x0 == y0 && (x1 == y1 && (x2 == y2 && x3 == y3))) w := by
 have hs : (sizeOf 3).run Tryd.prog w = .ok 1 w := by kernel_rfl
 have e := fun (x y : Int) => run_equalIn_int (P := Tryd.prog) w 9997 3 .i64 .i64 x y Tryd.underlying3
 rw [Op.equalIn]
 simp [Sem.run_bind, run_underlying Tryd.underlying22, hs, List.range', part, go_sem, e]
 by_cases h0 : x0 = y0 <;> by_cases h1 : x1 = y1 <;> by_cases h2 : x2 = y2 <;> by_cases h3 : x3 = y3 <;> simp [h0, h1, h2, h3]
theorem zaaj (w : World) (x b0 b1 b2 b3 y c0 c1 c2 c3 : Int) :
 (Op.equalIn 10000 24 (.agg #[.int .i64 x, .int .i64 b0, .int .i64 b1, .int .i64 b2, .int .i64 b3]) (.agg #[.int .i64 y, .int .i64 c0, .int .i64 c1, .int .i64 c2, .int .i64 c3])).run Tryd.prog w = .ok (x == y && (b0 == c0 && (b1 == c1 && (b2 == c2 && b3 == c3)))) w := by
 have e2 := zabm w
 have e3 := run_equalIn_int (P := Tryd.prog) w 9998 3 .i64 .i64 x y Tryd.underlying3
 rw [run_equalIn_agg (P := Tryd.prog) w 9999 24 _ _ Tryd.underlying24 (by kernel_rfl)]
 have s22 : (sizeOf 22).run Tryd.prog w = .ok 4 w := by kernel_rfl
 simp [Program.fieldsOf, Tryd.underlying24, Op.eqFields, part, go_sem, e2, e3, s22]
 by_cases h : x = y <;> by_cases h0 : b0 = c0 <;> by_cases h1 : b1 = c1 <;> by_cases h2 : b2 = c2 <;> by_cases h3 : b3 = c3 <;> simp [h, h0, h1, h2, h3]
theorem zyy : ∀ p ∈ tab.eqs, ∀ (xs ys : List Value) (r : Bool) (w : World) (x y : Operand), xs.length = p.2 -> zf8 xs ys = some r ->
  (do eqGuard .eql p.1 x y (.agg xs.toArray) (.agg ys.toArray); binOp .eql p.1 (.agg xs.toArray) (.agg ys.toArray) : Sem Value).run Tryd.prog w = .ok (.bool r) w /\
  (do eqGuard .neq p.1 x y (.agg xs.toArray) (.agg ys.toArray); binOp .neq p.1 (.agg xs.toArray) (.agg ys.toArray) : Sem Value).run Tryd.prog w = .ok (.bool !r) w := by
 refine List.forall_mem_cons.2 ⟨?_, fun _ h => (by cases h)⟩
 intro xs ys r w x y hl h
 have key : ∀ {xs ys : List Value} {r : Bool}, zf8 xs ys = some r -> xs.length = ys.length /\ ∀ v ∈ xs ++ ys, ∃ n, v = .int .i64 n := by
  intro xs
  induction xs with
  | nil => intro ys r h; cases ys with
   | nil => exact ⟨rfl, by simp⟩
   | cons u us => simp [zf8] at h
  | cons v vs ih =>
   intro ys r h
   cases ys with
   | nil => cases v with
    | int k n => cases k <;> simp [zf8] at h
    | _ => simp [zf8] at h
   | cons u us =>
    unfold zf8 at h
    split at h
    ·cases ‹_ :: _ = []›
    ·rename_i q1 q2
     cases q1; cases q2
     split at h
     ·rename_i r' hr'
      obtain ⟨h1, h2⟩ := ih hr'
      refine ⟨by simp [h1], fun z hz => ?_⟩
      simp only [List.cons_append, List.mem_cons, List.mem_append] at hz
      rcases hz with rfl | hz | rfl | hz
      ·exact ⟨_, rfl⟩
      ·exact h2 z (by simp [hz])
      ·exact ⟨_, rfl⟩
      ·exact h2 z (by simp [hz])
     ·cases h
    ·cases h
 obtain ⟨h1, h2⟩ := key h
 match xs, ys, hl, h1 with
 | [x0, x1, x2, x3, x4], [y0, y1, y2, y3, y4], _, _ =>
  obtain ⟨a0, rfl⟩ := h2 x0 (by simp)
  obtain ⟨a1, rfl⟩ := h2 x1 (by simp)
  obtain ⟨a2, rfl⟩ := h2 x2 (by simp)
  obtain ⟨a3, rfl⟩ := h2 x3 (by simp)
  obtain ⟨a4, rfl⟩ := h2 x4 (by simp)
  obtain ⟨b0, rfl⟩ := h2 y0 (by simp)
  obtain ⟨b1, rfl⟩ := h2 y1 (by simp)
  obtain ⟨b2, rfl⟩ := h2 y2 (by simp)
  obtain ⟨b3, rfl⟩ := h2 y3 (by simp)
  obtain ⟨b4, rfl⟩ := h2 y4 (by simp)
  have hr : r = (a0 == b0 && (a1 == b1 && (a2 == b2 && (a3 == b3 && a4 == b4)))) := by
   simp only [zf8, Option.some.injEq] at h
   rw [<- h]
   simp
   rfl
  have hm : Tryd.prog.eqGuardType Tryd.prog.depth 24 = false := by kernel_rfl
  constructor
  ·rw [Sem.run_bind, run_eqGuard_agg w _ _ _ _ _ _ hm, Result.andThen_ok, run_eql_struct, zaaj, hr]
   rfl
  ·rw [Sem.run_bind, run_eqGuard_agg w _ _ _ _ _ _ hm, Result.andThen_ok, run_neq_struct, zaaj, hr]
   rfl
theorem zac : tab.Ok Tryd.prog := ⟨by kernel_rfl, zaaa, zabq, zyn, zyy⟩
end Go.Proofs.YtmkpiekbpakigaaDoor
end
section
set_option linter.unusedVariables false
set_option linter.unusedSimpArgs false
namespace Go.Proofs.YtmkpiekbpakigaaDoor
open Go.RowKit Go.Proofs.Base Go.Proofs.Sym
theorem zhz {f : Nat} {fn : Func} (hf : Tryd.prog.funcs[f]? = some fn) (h1 : (fn.name == "runtime.NumGoroutine") = false) (h2 : fn.body.isNone = false) : zga Tryd.prog f := ⟨fn, hf, h1, h2⟩
theorem LvAt.up (b off : Nat) (l : Lv) : Up fun w => LvAt w b off l := fun w w' h ⟨h0, h1, h2, h3, h4⟩ => ⟨h.cell h0, h.cell h1, h.cell h2, h.cell h3, h.cell h4⟩
theorem zcz.up (A : Option Addr) (ls : List Lv) : Up fun w => zcz w A ls := fun w w' h ⟨h0, h1⟩ => ⟨h0, fun hp => let ⟨b, off, e, hc⟩ := h1 hp; ⟨b, off, e, fun j l hl => LvAt.up _ _ _ _ _ h (hc j l hl)⟩⟩
section
variable (a b : Lv)
theorem zw2 : PCall Tryd.prog 16 [a.val] (fun _ => True) (fun r => r = .bool a.right) (fun _ _ => True) :=
 pcall_val _ Up.true (zhz Tryd.func16 (by kernel_rfl) (by kernel_rfl)) fun w _ => zcn a.b a.p0 a.p1 a.p2 a.p3 w
theorem zyq (A : Option Addr) (bs : List Lv) (n c : Nat) (hn : n = bs.length) : PCall Tryd.prog 18 [a.val, .slice A n c] (fun w => zcz w A bs) (fun r => r = .tuple #[(a.inst bs).1.val, .bool (a.inst bs).2]) (fun _ _ => True) :=
 pcall_val _ (zcz.up A bs) (zhz Tryd.func18 (by kernel_rfl) (by kernel_rfl)) fun w h => zvs a A bs c w n hn h
theorem zvt : PCall Tryd.prog 51 [a.val] (fun _ => True) (fun r => r = .int .i64 a.width) (fun _ _ => True) :=
 pcall_val _ Up.true (zhz Tryd.func51 (by kernel_rfl) (by kernel_rfl)) fun w _ => zi8 a.b a.p0 a.p1 a.p2 a.p3 w
end
end Go.Proofs.YtmkpiekbpakigaaDoor
end
section
set_option linter.unusedVariables false
set_option linter.unusedSimpArgs false
namespace Go.Proofs.Sym
open Go.RowKit Go.Proofs.Base Go.Proofs.Mono
def SlAt (w : World) (A : Option Addr) (vs : List Value) : Prop := ∀ j u, vs[j]? = some u -> ∃ a, A = some a /\ w.cell? (a.add j) = some u
theorem SlAt.up (A : Option Addr) (vs : List Value) : Up fun w => SlAt w A vs := by
 intro w w' h hs j u hj
 obtain ⟨a, ha, hc⟩ := hs j u hj
 exact ⟨a, ha, h.cell hc⟩
theorem SlAt.nil (w : World) (A : Option Addr) : SlAt w A [] := fun j u h => by simp at h
section
variable {cx : Cx} {e : Env} {m : List (Nat × LB)} {k : Nat} {f : List (World -> Prop)} {w : World}
theorem Mem.seen (h : Mem cx e m k f w) : AllF f (hide cx.H w) := by
 rw [zhd]
 exact fun F hF => h.up F hF _ _ (zax fun g o hg hn => ⟨hg, fun hx => hn (.inl hx)⟩) (h.facts F hF)
theorem zb5 {H : Nat -> Prop} {w : World} {g : Nat} {o : Obj} (h : w.heap[g]? = some o) (hn : ¬ H g) : (hide H w).heap[g]? = some o := by
 rw [zcx, h]
 simp [hn]
end
end Go.Proofs.Sym
end
section
set_option linter.unusedVariables false
set_option linter.unusedSimpArgs false
namespace Go.Proofs.Sym
open Go.RowKit Go.Proofs.Base Go.Proofs.Mono
inductive Src where
 | blk (j : Nat)
 | own (j : Nat)
 | lit (j n : Nat)
def Src.id : Src -> Nat
 | .blk j => j
 | .own j => j
 | .lit j _ => j
def renE (rn : List (Nat × Src)) (e : Env) : Env :=
 ⟨fun i => match get i rn with | some (.blk j) => e.blk j | _ => e.blk i, fun i => match get i rn with | some (.own j) => e.row j | some (.lit j n) => (some ⟨e.blk j, 0, none⟩, n, n) | _ => e.row i⟩
def renC (rn : List (Nat × Src)) : Cap -> Option Cap
 | .v x => some (.v x)
 | .p i => match get i rn with
  | some (.blk j) => some (.p j)
  | _ => none
def renA (rn : List (Nat × Src)) : SA -> Option SA
 | .v x => some (.v x)
 | .p i o => match get i rn with
  | some (.blk j) => some (.p j o)
  | _ => none
 | .sl i o n c => match get i rn with
  | some (.blk j) => some (.sl j o n c)
  | _ => none
 | .row i => match get i rn with
  | some (.own j) => some (.row j)
  | some (.lit j n) => some (.sl j 0 n n)
  | _ => none
 | .q i o => match get i rn with
  | some (.own j) => some (.q j o)
  | some (.lit j _) => some (.p j o)
  | _ => none
 | .fn f fs cs => match za1 (renC rn) fs, za1 (renC rn) cs with
  | some a, some b => some (.fn f a b)
  | _, _ => none
def renT (rn : List (Nat × Src)) : TV -> Option TV
 | .one x => match renA rn x with
  | some y => some (.one y)
  | none => none
 | .agg xs => match za1 (renA rn) xs with
  | some ys => some (.agg ys)
  | none => none
def renV (rn : List (Nat × Src)) : SV -> Option SV
 | .one x => match renA rn x with
  | some y => some (.one y)
  | none => none
 | .agg xs => match za1 (renA rn) xs with
  | some ys => some (.agg ys)
  | none => none
 | .tup xs => match za1 (renT rn) xs with
  | some ys => some (.tup ys)
  | none => none
def zln (rn : List (Nat × Src)) (k : Nat) : Bool := rn.all fun p => Nat.blt p.1 k
def zws (rn : List (Nat × Src)) : Nat -> Bool
 | 0 => true
 | n + 1 => (match get n rn with | some (.blk j) => Nat.beq j n | _ => false) && zws rn n
def entS (rn : List (Nat × Src)) (s : List (Nat × SV)) : List (Nat × SV) -> Prop
 | [] => True
 | (t, v) :: r => (match renV rn v with
  | some v' => ∃ v0, get t s = some v0 /\ v0 = v'
  | none => False) /\ entS rn s r
def entM (rn : List (Nat × Src)) (m : List (Nat × LB)) : List (Nat × LB) -> Prop
 | [] => True
 | (i, b) :: r => (match b with
  | .dead => False
  | .cells t cs => match get i rn, za1 (renA rn) cs with
   | some (.blk j), some cs' => ∃ cs0, get j m = some (.cells t cs0) /\ cs0 = cs'
   | _, _ => False
  | .own E z n xs => match get i rn with
   | some (.own j) => ∃ n0 xs0, get j m = some (.own E z n0 xs0) /\ n0 = n /\ xs0 = xs
   | some (.lit j n') => n' = n /\ n <= maxLen /\ ∃ cs0, get j m = some (.cells E cs0) /\ zcp cs0 = some xs /\ xs.length = n * z
   | _ => False) /\ entM rn m r
section
variable {rn : List (Nat × Src)} {e : Env}
theorem ztg {c c' : Cap} (h : renC rn c = some c') : c.real (renE rn e) = c'.real e := by
 unfold renC at h
 split at h
 ·cases h; rfl
 ·split at h
  ·rename_i i j hj
   cases h
   simp only [Cap.real, renE, hj]
  ·cases h
theorem zop {x y : SA} (h : renA rn x = some y) : x.real (renE rn e) = y.real e := by
 unfold renA at h
 split at h
 ·cases h; rfl
 ·split at h
  ·rename_i hj
   cases h
   simp only [SA.real, renE, hj]
  ·cases h
 ·split at h
  ·rename_i hj
   cases h
   simp only [SA.real, renE, hj]
  ·cases h
 ·split at h
  ·rename_i hj
   cases h
   simp only [SA.real, Env.rv, renE, hj]
  ·rename_i hj
   cases h
   simp only [SA.real, Env.rv, renE, hj]
  ·cases h
 ·split at h
  ·rename_i hj
   cases h
   simp only [SA.real, renE, hj]
  ·rename_i hj
   cases h
   simp only [SA.real, renE, hj]
   rfl
  ·cases h
 ·split at h
  ·rename_i a b h1 h2
   cases h
   simp only [SA.real]
   rw [zch (Cap.real (renE rn e)) (Cap.real e) (fun x y hy => ztg hy) h1, zch (Cap.real (renE rn e)) (Cap.real e) (fun x y hy => ztg hy) h2]
  ·cases h
theorem zk6 {xs ys : List SA} (h : za1 (renA rn) xs = some ys) : reals (renE rn e) xs = reals e ys := zch _ _ (fun x y hy => zop hy) h
theorem zzq {x y : TV} (h : renT rn x = some y) : x.real (renE rn e) = y.real e := by
 unfold renT at h
 split at h
 ·split at h
  ·rename_i h1
   cases h
   exact zop h1
  ·cases h
 ·split at h
  ·rename_i h1
   cases h
   simp only [TV.real, zk6 h1]
  ·cases h
theorem zzk {x y : SV} (h : renV rn x = some y) : x.real (renE rn e) = y.real e := by
 unfold renV at h
 split at h
 ·split at h
  ·rename_i h1
   cases h
   exact zop h1
  ·cases h
 ·split at h
  ·rename_i h1
   cases h
   simp only [SV.real, zk6 h1]
  ·cases h
 ·split at h
  ·rename_i h1
   cases h
   simp only [SV.real]
   rw [zch (TV.real (renE rn e)) (TV.real e) (fun x y hy => zzq hy) h1]
  ·cases h
theorem zdh {k i : Nat} {s : Src} (h : zln rn k = true) (hi : get i rn = some s) : i < k := by
 have := List.all_eq_true.1 h _ (zak hi)
 rw [Nat.blt_eq] at this
 exact this
theorem zlq {k : Nat} (hk : zln rn k = true) {c c' : Cap} (h : renC rn c = some c') : c.lt k := by
 unfold renC at h
 split at h
 ·trivial
 ·split at h
  ·rename_i hj
   exact zdh hk hj
  ·cases h
theorem zdq {α β : Type} {f : α -> Option β} {q : α -> Prop} (hf : ∀ x y, f x = some y -> q x) : ∀ {l : List α} {ys : List β}, za1 f l = some ys -> ∀ x ∈ l, q x
 | [], ys, hl => by simp
 | x :: r, ys, hl => by
  simp only [za1] at hl
  split at hl
  ·rename_i y ys' h1 h2
   intro z hz
   rcases List.mem_cons.1 hz with rfl | hz
   ·exact hf _ _ h1
   ·exact zdq hf h2 z hz
  ·cases hl
theorem zyx {k k0 : Nat} (hk : zln rn k = true) {x y : SA} (h : renA rn x = some y) (hy : y.lt k0) : x.lt k := by
 unfold renA at h
 split at h
 ·cases h; exact hy
 ·split at h
  ·rename_i hj; exact zdh hk hj
  ·cases h
 ·split at h
  ·rename_i hj; exact zdh hk hj
  ·cases h
 ·split at h
  ·rename_i hj; exact zdh hk hj
  ·rename_i hj; exact zdh hk hj
  ·cases h
 ·split at h
  ·rename_i hj; exact zdh hk hj
  ·rename_i hj; exact zdh hk hj
  ·cases h
 ·split at h
  ·rename_i a b h1 h2
   exact ⟨zdq (fun x y hy => zlq hk hy) h1, zdq (fun x y hy => zlq hk hy) h2⟩
  ·cases h
theorem zpj {k : Nat} (hk : zln rn k = true) {x y : SA} (h : renA rn x = some y) : x.lt0 k := by
 cases x with
 | v x => trivial
 | p i o =>
  simp only [renA] at h
  split at h
  ·rename_i hj; exact zdh hk hj
  ·cases h
 | sl i o n c =>
  simp only [renA] at h
  split at h
  ·rename_i hj; exact zdh hk hj
  ·cases h
 | row i =>
  simp only [renA] at h
  split at h
  ·rename_i hj; exact zdh hk hj
  ·rename_i hj; exact zdh hk hj
  ·cases h
 | q i o =>
  simp only [renA] at h
  split at h
  ·rename_i hj; exact zdh hk hj
  ·rename_i hj; exact zdh hk hj
  ·cases h
 | fn f fs cs =>
  simp only [renA] at h
  split at h
  ·rename_i a b h1 h2
   exact ⟨zdq (fun x y hy => zlq hk hy) h1, zdq (fun x y hy => zlq hk hy) h2⟩
  ·cases h
theorem zh7 {k k0 : Nat} (hk : zln rn k = true) : ∀ {xs ys : List SA}, za1 (renA rn) xs = some ys -> (∀ y ∈ ys, y.lt k0) -> ∀ x ∈ xs, x.lt k
 | [], ys, hl, _ => by simp
 | x :: r, ys, hl, hy => by
  simp only [za1] at hl
  split at hl
  ·rename_i y ys' h1 h2
   cases hl
   intro z hz
   rcases List.mem_cons.1 hz with rfl | hz
   ·exact zyx hk h1 (hy y List.mem_cons_self)
   ·exact zh7 hk h2 (fun y hm => hy y (List.mem_cons_of_mem _ hm)) z hz
  ·cases hl
theorem zz3 {k k0 : Nat} (hk : zln rn k = true) {x y : TV} (h : renT rn x = some y) (hy : y.lt k0) : x.lt k := by
 unfold renT at h
 split at h
 ·split at h
  ·rename_i h1
   cases h
   exact zpj hk h1
  ·cases h
 ·split at h
  ·rename_i h1
   cases h
   exact zh7 hk h1 hy
  ·cases h
theorem zpc {k k0 : Nat} (hk : zln rn k = true) : ∀ {xs ys : List TV}, za1 (renT rn) xs = some ys -> (∀ y ∈ ys, y.lt k0) -> ∀ x ∈ xs, x.lt k
 | [], ys, hl, _ => by simp
 | x :: r, ys, hl, hy => by
  simp only [za1] at hl
  split at hl
  ·rename_i y ys' h1 h2
   cases hl
   intro z hz
   rcases List.mem_cons.1 hz with rfl | hz
   ·exact zz3 hk h1 (hy y List.mem_cons_self)
   ·exact zpc hk h2 (fun y hm => hy y (List.mem_cons_of_mem _ hm)) z hz
  ·cases hl
theorem zzo {k k0 : Nat} (hk : zln rn k = true) {x y : SV} (h : renV rn x = some y) (hy : y.lt k0) : x.lt k := by
 unfold renV at h
 split at h
 ·split at h
  ·rename_i h1
   cases h
   exact zpj hk h1
  ·cases h
 ·split at h
  ·rename_i h1
   cases h
   exact zh7 hk h1 hy
  ·cases h
 ·split at h
  ·rename_i h1
   cases h
   exact zpc hk h1 hy
  ·cases h
theorem zp8 {s : List (Nat × SV)} {t : Nat} {v : SV} : ∀ {l : List (Nat × SV)}, entS rn s l -> (t, v) ∈ l -> ∃ v', renV rn v = some v' /\ get t s = some v'
 | (u, x) :: r, h, hm => by
  obtain ⟨h1, h2⟩ := h
  rcases List.mem_cons.1 hm with heq | hm
  ·cases heq
   split at h1
   ·rename_i v' hv'
    obtain ⟨v0, h3, rfl⟩ := h1
    exact ⟨_, hv', h3⟩
   ·exact h1.elim
  ·exact zp8 h2 hm
def entB (rn : List (Nat × Src)) (m : List (Nat × LB)) (i : Nat) (b : LB) : Prop := match b with
  | .dead => False
  | .cells t cs => match get i rn, za1 (renA rn) cs with
   | some (.blk j), some cs' => ∃ cs0, get j m = some (.cells t cs0) /\ cs0 = cs'
   | _, _ => False
  | .own E z n xs => match get i rn with
   | some (.own j) => ∃ n0 xs0, get j m = some (.own E z n0 xs0) /\ n0 = n /\ xs0 = xs
   | some (.lit j n') => n' = n /\ n <= maxLen /\ ∃ cs0, get j m = some (.cells E cs0) /\ zcp cs0 = some xs /\ xs.length = n * z
   | _ => False
theorem zgu {m : List (Nat × LB)} {i : Nat} {b : LB} : ∀ {l : List (Nat × LB)}, entM rn m l -> (i, b) ∈ l -> entB rn m i b
 | (u, x) :: r, h, hm => by
  obtain ⟨h1, h2⟩ := h
  rcases List.mem_cons.1 hm with heq | hm
  ·cases heq
   exact h1
  ·exact zgu h2 hm
theorem zst : ∀ {n i : Nat}, zws rn n = true -> i < n -> get i rn = some (.blk i)
 | n + 1, i, h, hi => by
  simp only [zws, Bool.and_eq_true] at h
  obtain ⟨h1, h2⟩ := h
  by_cases e1 : i = n
  ·subst e1
   split at h1
   ·rename_i j hj
    rw [Nat.beq_eq] at h1
    rw [hj, h1]
   ·cases h1
  ·exact zst h2 (by omega)
theorem zqk : ∀ {rn : List (Nat × Src)}, zc4 (rn.map fun p => p.2.id) = true -> ∀ {i i2 : Nat} {s s2 : Src}, (i, s) ∈ rn -> (i2, s2) ∈ rn -> s.id = s2.id -> i = i2
 | [], _, i, i2, s, s2, h1, _, _ => by cases h1
 | (j, u) :: r, h, i, i2, s, s2, h1, h2, he => by
  simp only [List.map_cons, zc4, Bool.and_eq_true, Bool.not_eq_true'] at h
  obtain ⟨h3, h4⟩ := h
  have hno : ∀ {i : Nat} {s : Src}, (i, s) ∈ r -> s.id ≠ u.id := by
   intro i s hm heq
   have : hasN u.id (r.map fun p => p.2.id) = true := zbj.2 (by rw [<- heq]; exact List.mem_map.2 ⟨_, hm, rfl⟩)
   rw [this] at h3
   cases h3
  rcases List.mem_cons.1 h1 with e1 | h1 <;> rcases List.mem_cons.1 h2 with e2 | h2
  ·cases e1; cases e2; rfl
  ·cases e1
   exact absurd he.symm (hno h2)
  ·cases e2
   exact absurd he (hno h1)
  ·exact zqk h4 h1 h2 he
end
def isS {α : Type _} : Option α -> Bool
 | some _ => true
 | none => false
theorem rs {rn : List (Nat × Src)} {s : List (Nat × SV)} : ∀ {s' : List (Nat × SV)}, s'.map (fun p => get p.1 s) = s'.map (fun p => renV rn p.2) -> (s'.all fun p => isS (renV rn p.2)) = true -> entS rn s s'
 | [], _, _ => trivial
 | (t, v) :: r, h, h2 => by
  simp only [List.map_cons, List.cons.injEq] at h
  simp only [List.all_cons, Bool.and_eq_true] at h2
  refine ⟨?_, rs h.2 h2.2⟩
  cases hv : renV rn v with
  | none => rw [hv] at h2; cases h2.1
  | some v' => exact ⟨v', by rw [h.1, hv], rfl⟩
def cM (rn : List (Nat × Src)) (p : Nat × LB) : Option LB := match p.2 with
 | .cells t cs => match get p.1 rn, za1 (renA rn) cs with
  | some (.blk _), some cs' => some (.cells t cs')
  | _, _ => none
 | _ => none
def gM (rn : List (Nat × Src)) (m : List (Nat × LB)) (p : Nat × LB) : Option LB := match get p.1 rn with
 | some (.blk j) => get j m
 | _ => none
theorem rm {rn : List (Nat × Src)} {m : List (Nat × LB)} : ∀ {m' : List (Nat × LB)}, m'.map (gM rn m) = m'.map (cM rn) -> (m'.all fun p => isS (cM rn p)) = true -> entM rn m m'
 | [], _, _ => trivial
 | (i, b) :: r, h, h2 => by
  simp only [List.map_cons, List.cons.injEq] at h
  simp only [List.all_cons, Bool.and_eq_true] at h2
  refine ⟨?_, rm h.2 h2.2⟩
  obtain ⟨h, _⟩ := h
  obtain ⟨h2, _⟩ := h2
  unfold cM at h h2
  cases b with
  | dead => cases h2
  | own E z n xs => cases h2
  | cells t cs =>
   simp only at h h2 ⊢
   split
   ·rename_i j cs' hj hcs
    rw [hj, hcs] at h
    unfold gM at h
    rw [hj] at h
    exact ⟨cs', h, rfl⟩
   ·rename_i hn
    split at h2
    ·rename_i j cs' hj hcs
     exact absurd hcs (hn j cs' hj)
    ·cases h2
def entF (f : List (World -> Prop)) : List (World -> Prop) -> Prop
 | [] => True
 | F :: r => (Up F /\ ∀ w, AllF f w -> F w) /\ entF f r
theorem zlh {f : List (World -> Prop)} {F : World -> Prop} : ∀ {l : List (World -> Prop)}, entF f l -> F ∈ l -> Up F /\ ∀ w, AllF f w -> F w
 | G :: r, h, hm => by
  obtain ⟨h1, h2⟩ := h
  rcases List.mem_cons.1 hm with rfl | hm
  ·exact h1
  ·exact zlh h2 hm
theorem zaa {st st' : St} (rn : List (Nat × Src)) (hlt : zln rn st'.k = true) (hap : zc4 (rn.map fun p => p.2.id) = true) (hbase : zws rn st.b = true) (hb : st'.b = st.b) (hbk : st'.b <= st'.k)
  (hs : entS rn st.s st'.s) (hm : entM rn st.m st'.m) (hf : entF st.f st'.f) : Ent st st' := by
 refine ⟨fun cx e a w hS => ⟨renE rn e, ?_⟩⟩
 have hsrc : ∀ {i g}, At (renE rn e) st'.m i g -> ∃ s, get i rn = some s /\ At e st.m s.id g := by
  rintro i g ⟨b, hb, hg⟩
  have h1 := zgu hm (zak hb)
  unfold entB at h1
  split at h1
  ·cases hg
  ·rename_i t cs
   split at h1
   ·rename_i j cs' hj hcs
    obtain ⟨cs0, h2, _⟩ := h1
    simp only [LB.block, renE, hj] at hg
    exact ⟨_, hj, _, h2, hg⟩
   ·exact h1.elim
  ·rename_i E z n xs
   split at h1
   ·rename_i j hj
    obtain ⟨n0, xs0, h2, _⟩ := h1
    simp only [LB.block, Env.rv, renE, hj] at hg
    exact ⟨_, hj, _, h2, hg⟩
   ·rename_i j n' hj
    obtain ⟨_, _, cs0, h2, _⟩ := h1
    simp only [LB.block, Env.rv, renE, hj, Value.ownBlock] at hg
    exact ⟨_, hj, _, h2, hg⟩
   ·exact h1.elim
 refine ⟨hS.base.trans hb.symm, hS.size, hS.defers, fun i v hi => ?_, ?_⟩
 ·obtain ⟨v', h1, h2⟩ := zp8 hs (zak hi)
  obtain ⟨h3, h4⟩ := hS.slots i v' h2
  exact ⟨zzo hlt h1 h3, by rw [h4, zzk h1]⟩
 ·refine ⟨hS.mem.fr, fun i hi => ?_, by rw [hS.base, <- hb]; exact hbk, fun i t cs hi => ?_, fun i E z n xs hi => ?_, fun i b hi => ?_, fun i g hg => ?_, fun i i2 g h1 h2 => ?_, fun F hF => (zlh hf hF).1, fun F hF => ?_⟩
  ·have := zst hbase (by rw [<- hS.base]; exact hi)
   simp only [renE, this]
   exact hS.mem.ids i hi
  ·have h1 := zgu hm (zak hi)
   simp only [entB] at h1
   split at h1
   ·rename_i j cs' hj hcs
    obtain ⟨cs0, h2, rfl⟩ := h1
    have := hS.mem.cells _ _ _ h2
    rw [zk6 hcs]
    simp only [renE, hj]
    exact this
   ·exact h1.elim
  ·have h1 := zgu hm (zak hi)
   simp only [entB] at h1
   split at h1
   ·rename_i j hj
    obtain ⟨n0, xs0, h2, rfl, rfl⟩ := h1
    have := hS.mem.own _ _ _ _ _ h2
    simp only [Env.rv, renE, hj]
    exact this
   ·rename_i j n' hj
    obtain ⟨rfl, hmax, cs0, h2, h3, h4⟩ := h1
    have hbk := hS.mem.cells _ _ _ h2
    rw [zbn e h3] at hbk
    simp only [Env.rv, renE, hj]
    refine ⟨h4, .inr ⟨e.blk j, n', xs.toArray, rfl, Nat.zero_le _, hbk, Nat.le_refl _, hmax, by simpa using h4, ?_⟩⟩
    rw [<- h4]
    simp
   ·exact h1.elim
  ·have h1 := zgu hm (zak hi)
   unfold entB at h1
   split at h1
   ·exact h1.elim
   ·rename_i t cs
    split at h1
    ·rename_i j cs' hj hcs
     obtain ⟨cs0, h2, rfl⟩ := h1
     exact ⟨zdh hlt hj, zh7 hlt hcs (hS.mem.sc _ _ h2).2⟩
    ·exact h1.elim
   ·rename_i E z n xs
    split at h1
    ·rename_i j hj
     exact ⟨zdh hlt hj, trivial⟩
    ·rename_i j n' hj
     exact ⟨zdh hlt hj, trivial⟩
    ·exact h1.elim
  ·obtain ⟨s, _, h1⟩ := hsrc hg
   exact hS.mem.free _ g h1
  ·obtain ⟨s, h3, h4⟩ := hsrc h1
   obtain ⟨s2, h5, h6⟩ := hsrc h2
   exact zqk hap (zak h3) (zak h5) (hS.mem.apart _ _ _ h4 h6)
  ·obtain ⟨hu, h1⟩ := zlh hf hF
   refine hu _ _ (zax fun g o hg hn => ⟨hg, fun hx => hn ?_⟩) (h1 _ hS.mem.hidden)
   rcases hx with hx | ⟨i, hx⟩
   ·exact .inl hx
   ·obtain ⟨s, _, h2⟩ := hsrc hx
    exact .inr ⟨_, h2⟩
def frzA (i : Nat) (v : Value) : SA -> SA
 | .row j => match Nat.beq i j with
  | true => .v v
  | false => .row j
 | x => x
def frzT (i : Nat) (v : Value) : TV -> TV
 | .one x => .one (frzA i v x)
 | .agg xs => .agg (xs.map (frzA i v))
def frzV (i : Nat) (v : Value) : SV -> SV
 | .one x => .one (frzA i v x)
 | .agg xs => .agg (xs.map (frzA i v))
 | .tup xs => .tup (xs.map (frzT i v))
def frzS (i : Nat) (v : Value) : List (Nat × SV) -> List (Nat × SV)
 | [] => []
 | (t, x) :: r => (t, frzV i v x) :: frzS i v r
def frzM (i : Nat) (v : Value) : List (Nat × LB) -> List (Nat × LB)
 | [] => []
 | (t, .cells u cs) :: r => (t, .cells u (cs.map (frzA i v))) :: frzM i v r
 | (t, b) :: r => (t, b) :: frzM i v r
section
variable {i : Nat} {v : Value} {e : Env}
theorem zlm (h : e.rv i = v) (x : SA) : (frzA i v x).real e = x.real e := by
 unfold frzA
 split
 ·rename_i j
  split
  ·rename_i hb
   obtain rfl : i = j := by rw [<- Nat.beq_eq]; exact hb
   exact h.symm
  ·rfl
 ·rfl
theorem zha (h : e.rv i = v) (xs : List SA) : reals e (xs.map (frzA i v)) = reals e xs := by
 simp only [reals, List.map_map]
 exact List.map_congr_left fun x _ => zlm h x
theorem zzg (h : e.rv i = v) (x : TV) : (frzT i v x).real e = x.real e := by
 cases x with
 | one x => exact zlm h x
 | agg xs => simp only [frzT, TV.real, zha h]
theorem zol (h : e.rv i = v) (x : SV) : (frzV i v x).real e = x.real e := by
 cases x with
 | one x => exact zlm h x
 | agg xs => simp only [frzV, SV.real, zha h]
 | tup xs =>
  simp only [frzV, SV.real, List.map_map]
  congr 2
  exact List.map_congr_left fun x _ => zzg h x
theorem zhn {k : Nat} (h1 : v.oneCell' = true) {x : SA} (h : x.lt k) : (frzA i v x).lt k := by
 unfold frzA
 split
 ·split
  ·exact h1
  ·exact h
 ·exact h
theorem zlc {k : Nat} {x : SA} (h : x.lt0 k) : (frzA i v x).lt0 k := by
 unfold frzA
 split
 ·split
  ·trivial
  ·exact h
 ·exact h
theorem zo1 {k : Nat} (h1 : v.oneCell' = true) {x : SV} (h : x.lt k) : (frzV i v x).lt k := by
 cases x with
 | one x => exact zlc h
 | agg xs =>
  intro y hy
  obtain ⟨z, hz, rfl⟩ := List.mem_map.1 hy
  exact zhn h1 (h z hz)
 | tup xs =>
  intro y hy
  obtain ⟨z, hz, rfl⟩ := List.mem_map.1 hy
  have := h z hz
  cases z with
  | one x => exact zlc this
  | agg ys =>
   intro y hy
   obtain ⟨q, hq, rfl⟩ := List.mem_map.1 hy
   exact zhn h1 (this q hq)
theorem zic {t : Nat} {u : SV} : ∀ {s : List (Nat × SV)}, get t (frzS i v s) = some u -> ∃ u0, get t s = some u0 /\ u = frzV i v u0
 | [], h => by cases h
 | (t0, x) :: r, h => by
  simp only [frzS] at h
  rcases zah h with ⟨rfl, rfl⟩ | ⟨hne, h⟩
  ·exact ⟨x, za4 _ _ _, rfl⟩
  ·obtain ⟨u0, h1, h2⟩ := zic h
   exact ⟨u0, by rw [zbw hne]; exact h1, h2⟩
theorem zbx {t : Nat} {b : LB} : ∀ {m : List (Nat × LB)}, get t (frzM i v m) = some b -> ∃ b0, get t m = some b0 /\ ((∃ u cs, b0 = .cells u cs /\ b = .cells u (cs.map (frzA i v))) \/ (b = b0 /\ ∀ u cs, b0 ≠ .cells u cs))
 | [], h => by cases h
 | (t0, x) :: r, h => by
  cases x with
  | cells u cs =>
   simp only [frzM] at h
   rcases zah h with ⟨rfl, rfl⟩ | ⟨hne, h⟩
   ·exact ⟨_, za4 _ _ _, .inl ⟨u, cs, rfl, rfl⟩⟩
   ·obtain ⟨u0, h1, h2⟩ := zbx h
    exact ⟨u0, by rw [zbw hne]; exact h1, h2⟩
  | dead =>
   simp only [frzM] at h
   rcases zah h with ⟨rfl, rfl⟩ | ⟨hne, h⟩
   ·exact ⟨_, za4 _ _ _, .inr ⟨rfl, fun u cs h => by cases h⟩⟩
   ·obtain ⟨u0, h1, h2⟩ := zbx h
    exact ⟨u0, by rw [zbw hne]; exact h1, h2⟩
  | own E z n xs =>
   simp only [frzM] at h
   rcases zah h with ⟨rfl, rfl⟩ | ⟨hne, h⟩
   ·exact ⟨_, za4 _ _ _, .inr ⟨rfl, fun u cs h => by cases h⟩⟩
   ·obtain ⟨u0, h1, h2⟩ := zbx h
    exact ⟨u0, by rw [zbw hne]; exact h1, h2⟩
end
def freeze (i : Nat) (v : Value) (F : World -> Prop) (st : St) : St := { st with s := frzS i v st.s, m := (i, .dead) :: frzM i v st.m, f := F :: st.f }
theorem Mem.row_seen {cx : Cx} {e : Env} {m : List (Nat × LB)} {k : Nat} {f : List (World -> Prop)} {w : World} (h : Mem cx e m k f w) {i E z n : Nat} {xs : List Value} (hi : get i m = some (.own E z n xs)) (H' : Nat -> Prop) (hH : ∀ g, At e m i g -> ¬ H' g) :
  ∃ A c, e.rv i = .slice A n c /\ (A = none -> n = 0 /\ c = 0) /\ n <= c /\ c <= maxLen /\ SlAt (hide H' w) A xs := by
 have h1 := h.own i E z n xs hi
 rcases h1.2 with ⟨hv, h0⟩ | ⟨g, cap, cur, hv, _, hh, hnc, hcm, hcs, ht⟩
 ·refine ⟨none, 0, by rw [hv, h0], fun _ => ⟨h0, rfl⟩, by omega, by simp [maxLen], ?_⟩
  have : xs = [] := List.eq_nil_of_length_eq_zero (by rw [h1.1, h0, Nat.zero_mul])
  rw [this]
  exact SlAt.nil _ _
 ·refine ⟨some ⟨g, 0, none⟩, cap, hv, fun hn => (by cases hn), hnc, hcm, fun j u hj => ⟨_, rfl, ?_⟩⟩
  have hb := zb5 hh (hH g ⟨_, hi, by simp only [LB.block, hv, Value.ownBlock]⟩)
  rw [zbl, cell_of_row _ g (0 + j) cur E (0, 0) hb]
  rw [<- ht, List.getElem?_take] at hj
  split at hj
  ·simpa using hj
  ·cases hj
theorem zrr {cx : Cx} {e : Env} {st : St} {a : Act} {w : World} (hS : Sat cx e st a w) {i E z n : Nat} {xs : List Value} (hi : get i st.m = some (.own E z n xs)) :
  ∃ A c, (A = none -> n = 0 /\ c = 0) /\ n <= c /\ c <= maxLen /\ Sat cx e (freeze i (.slice A n c) (fun w => SlAt w A xs) st) a w := by
 have hm := hS.mem
 have hat : ∀ {v : Value} {j g}, At e ((i, LB.dead) :: frzM i v st.m) j g -> j ≠ i /\ At e st.m j g := by
  rintro v j g ⟨b, hb, hg⟩
  rcases zah hb with ⟨rfl, rfl⟩ | ⟨hne, hb⟩
  ·cases hg
  ·obtain ⟨b0, h1, h2⟩ := zbx hb
   refine ⟨hne, b0, h1, ?_⟩
   rcases h2 with ⟨u, cs, rfl, rfl⟩ | ⟨rfl, _⟩
   ·exact hg
   ·exact hg
 obtain ⟨A, c, hv, h1, h2, h3, h4⟩ := hm.row_seen hi (fun g => cx.H g \/ ∃ j, j ≠ i /\ At e st.m j g) (by
  intro g hg hx
  rcases hx with hx | ⟨j, hne, hx⟩
  ·rcases hm.free i g hg with h | h
   ·exact Nat.lt_irrefl _ (Nat.lt_of_lt_of_le (cx.hH g hx) h)
   ·exact cx.hG g h hx
  ·exact hne (hm.apart _ _ _ hx hg))
 refine ⟨A, c, h1, h2, h3, hS.base, hS.size, hS.defers, fun t u hu => ?_, hm.fr, hm.ids, hm.low, fun j t cs hj => ?_, fun j E' z' n' xs' hj => ?_, fun j b hj => ?_, fun j g hg => hm.free j g (hat hg).2, fun j l g hj hl => hm.apart j l g (hat hj).2 (hat hl).2, fun F hF => ?_, fun F hF => ?_⟩
 ·obtain ⟨u0, h5, rfl⟩ := zic hu
  obtain ⟨h6, h7⟩ := hS.slots _ _ h5
  exact ⟨zo1 rfl h6, by rw [h7, zol hv]⟩
 ·rcases zah hj with ⟨rfl, e1⟩ | ⟨hne, hj⟩
  ·cases e1
  ·obtain ⟨b0, h5, h6⟩ := zbx hj
   rcases h6 with ⟨u, cs0, rfl, h7⟩ | ⟨h7, h8⟩
   ·cases h7
    rw [zha hv]
    exact hm.cells _ _ _ h5
   ·exact absurd h7.symm (h8 _ _)
 ·rcases zah hj with ⟨rfl, e1⟩ | ⟨hne, hj⟩
  ·cases e1
  ·obtain ⟨b0, h5, h6⟩ := zbx hj
   rcases h6 with ⟨u, cs0, rfl, h7⟩ | ⟨h7, h8⟩
   ·cases h7
   ·rw [<- h7] at h5
    exact hm.own _ _ _ _ _ h5
 ·rcases zah hj with ⟨rfl, e1⟩ | ⟨hne, hj⟩
  ·subst e1
   exact ⟨(hm.sc _ _ hi).1, trivial⟩
  ·obtain ⟨b0, h5, h6⟩ := zbx hj
   obtain ⟨h7, h8⟩ := hm.sc _ _ h5
   refine ⟨h7, ?_⟩
   rcases h6 with ⟨u, cs0, rfl, rfl⟩ | ⟨rfl, _⟩
   ·intro x hx
    obtain ⟨q, hq, rfl⟩ := List.mem_map.1 hx
    exact zhn rfl (h8 q hq)
   ·exact h8
 ·rcases List.mem_cons.1 hF with rfl | hF
  ·exact SlAt.up A xs
  ·exact hm.up F hF
 ·have hsub : ∀ g, (cx.H g \/ Own e ((i, LB.dead) :: frzM i (.slice A n c) st.m) g) -> (cx.H g \/ ∃ j, j ≠ i /\ At e st.m j g) := by
   rintro g (hx | ⟨j, hx⟩)
   ·exact .inl hx
   ·exact .inr ⟨j, hat hx⟩
  rcases List.mem_cons.1 hF with rfl | hF
  ·exact SlAt.up A xs _ _ (zax fun g o hg hn => ⟨hg, fun hx => hn (hsub g hx)⟩) h4
  ·refine hm.up F hF _ _ (zax fun g o hg hn => ⟨hg, fun hx => hn ?_⟩) (hm.facts F hF)
   rcases hsub g hx with hx | ⟨j, _, hx⟩
   ·exact .inl hx
   ·exact .inr ⟨j, hx⟩
theorem zai.freeze {P : Program} {N : Nat} {c : Code} {K : Exit -> St -> Prop} {st : St} (i : Nat) {E z n : Nat} {xs : List Value} (hi : get i st.m = some (.own E z n xs))
  (h : ∀ A cp, (A = none -> n = 0 /\ cp = 0) -> n <= cp -> cp <= maxLen -> zai P N c K (Sym.freeze i (.slice A n cp) (fun w => SlAt w A xs) st)) : zai P N c K st :=
 ⟨fun cx e a w hn hS => let ⟨A, cp, h1, h2, h3, hS'⟩ := zrr hS hi; (h A cp h1 h2 h3).run cx e a w hn hS'⟩
end Go.Proofs.Sym
end
section
set_option linter.unusedVariables false
set_option linter.unusedSimpArgs false
namespace Go.Proofs.Sym
open Go.RowKit Go.Proofs.Base Go.Proofs.Mono
def sbT (σ : SA -> SA) : TV -> TV
 | .one x => .one (σ x)
 | .agg xs => .agg (xs.map σ)
def sbV (σ : SA -> SA) : SV -> SV
 | .one x => .one (σ x)
 | .agg xs => .agg (xs.map σ)
 | .tup xs => .tup (xs.map (sbT σ))
def sbS (σ : SA -> SA) : List (Nat × SV) -> List (Nat × SV)
 | [] => []
 | (t, x) :: r => (t, sbV σ x) :: sbS σ r
def sbM (σ : SA -> SA) : List (Nat × LB) -> List (Nat × LB)
 | [] => []
 | (t, .cells u cs) :: r => (t, .cells u (cs.map σ)) :: sbM σ r
 | (t, b) :: r => (t, b) :: sbM σ r
structure zg4 (σ : SA -> SA) (e : Env) : Prop where
 real : ∀ x, (σ x).real e = x.real e
 lt : ∀ k x, x.lt k -> (σ x).lt k
 lt0 : ∀ k x, x.lt0 k -> (σ x).lt0 k
def sbSt (σ : SA -> SA) (i : Nat) (F : World -> Prop) (st : St) : St := { st with s := sbS σ st.s, m := (i, .dead) :: sbM σ st.m, f := F :: st.f }
section
variable {σ : SA -> SA} {e : Env}
theorem zg4.reals (h : zg4 σ e) (xs : List SA) : reals e (xs.map σ) = Sym.reals e xs := by
 simp only [Sym.reals, List.map_map]
 exact List.map_congr_left fun x _ => h.real x
theorem zg4.t (h : zg4 σ e) (x : TV) : (sbT σ x).real e = x.real e := by
 cases x with
 | one x => exact h.real x
 | agg xs => simp only [sbT, TV.real, h.reals]
theorem zg4.v (h : zg4 σ e) (x : SV) : (sbV σ x).real e = x.real e := by
 cases x with
 | one x => exact h.real x
 | agg xs => simp only [sbV, SV.real, h.reals]
 | tup xs =>
  simp only [sbV, SV.real, List.map_map]
  congr 2
  exact List.map_congr_left fun x _ => h.t x
theorem zg4.vlt (h : zg4 σ e) {k : Nat} {x : SV} (hx : x.lt k) : (sbV σ x).lt k := by
 cases x with
 | one x => exact h.lt0 k _ hx
 | agg xs =>
  intro y hy
  obtain ⟨z, hz, rfl⟩ := List.mem_map.1 hy
  exact h.lt k _ (hx z hz)
 | tup xs =>
  intro y hy
  obtain ⟨z, hz, rfl⟩ := List.mem_map.1 hy
  have := hx z hz
  cases z with
  | one x => exact h.lt0 k _ this
  | agg ys =>
   intro y hy
   obtain ⟨q, hq, rfl⟩ := List.mem_map.1 hy
   exact h.lt k _ (this q hq)
theorem zir {t : Nat} {u : SV} : ∀ {s : List (Nat × SV)}, get t (sbS σ s) = some u -> ∃ u0, get t s = some u0 /\ u = sbV σ u0
 | [], h => by cases h
 | (t0, x) :: r, h => by
  simp only [sbS] at h
  rcases zah h with ⟨rfl, rfl⟩ | ⟨hne, h⟩
  ·exact ⟨x, za4 _ _ _, rfl⟩
  ·obtain ⟨u0, h1, h2⟩ := zir h
   exact ⟨u0, by rw [zbw hne]; exact h1, h2⟩
theorem zgc {t : Nat} {b : LB} : ∀ {m : List (Nat × LB)}, get t (sbM σ m) = some b -> ∃ b0, get t m = some b0 /\ ((∃ u cs, b0 = .cells u cs /\ b = .cells u (cs.map σ)) \/ (b = b0 /\ ∀ u cs, b0 ≠ .cells u cs))
 | [], h => by cases h
 | (t0, x) :: r, h => by
  cases x with
  | cells u cs =>
   simp only [sbM] at h
   rcases zah h with ⟨rfl, rfl⟩ | ⟨hne, h⟩
   ·exact ⟨_, za4 _ _ _, .inl ⟨u, cs, rfl, rfl⟩⟩
   ·obtain ⟨u0, h1, h2⟩ := zgc h
    exact ⟨u0, by rw [zbw hne]; exact h1, h2⟩
  | dead =>
   simp only [sbM] at h
   rcases zah h with ⟨rfl, rfl⟩ | ⟨hne, h⟩
   ·exact ⟨_, za4 _ _ _, .inr ⟨rfl, fun u cs h => by cases h⟩⟩
   ·obtain ⟨u0, h1, h2⟩ := zgc h
    exact ⟨u0, by rw [zbw hne]; exact h1, h2⟩
  | own E z n xs =>
   simp only [sbM] at h
   rcases zah h with ⟨rfl, rfl⟩ | ⟨hne, h⟩
   ·exact ⟨_, za4 _ _ _, .inr ⟨rfl, fun u cs h => by cases h⟩⟩
   ·obtain ⟨u0, h1, h2⟩ := zgc h
    exact ⟨u0, by rw [zbw hne]; exact h1, h2⟩
end
section
variable {cx : Cx} {e : Env} {m : List (Nat × LB)} {k : Nat} {f : List (World -> Prop)} {w : World}
theorem Mem.spell (hm : Mem cx e m k f w) {i : Nat} {b0 : LB} (hi : get i m = some b0) {σ : SA -> SA} (hσ : zg4 σ e) {F : World -> Prop} (hU : Up F) (hF : F (hide (fun g => cx.H g \/ ∃ j, j ≠ i /\ At e m j g) w)) :
  Mem cx e ((i, .dead) :: sbM σ m) k (F :: f) w := by
 have hat : ∀ {j g}, At e ((i, LB.dead) :: sbM σ m) j g -> j ≠ i /\ At e m j g := by
  rintro j g ⟨b, hb, hg⟩
  rcases zah hb with ⟨rfl, rfl⟩ | ⟨hne, hb⟩
  ·cases hg
  ·obtain ⟨b0, h1, h2⟩ := zgc hb
   refine ⟨hne, b0, h1, ?_⟩
   rcases h2 with ⟨u, cs, rfl, rfl⟩ | ⟨rfl, _⟩
   ·exact hg
   ·exact hg
 refine ⟨hm.fr, hm.ids, hm.low, fun j t cs hj => ?_, fun j E' z' n' xs' hj => ?_, fun j b hj => ?_, fun j g hg => hm.free j g (hat hg).2, fun j l g hj hl => hm.apart j l g (hat hj).2 (hat hl).2, fun G hG => ?_, fun G hG => ?_⟩
 ·rcases zah hj with ⟨rfl, e1⟩ | ⟨hne, hj⟩
  ·cases e1
  ·obtain ⟨b0, h5, h6⟩ := zgc hj
   rcases h6 with ⟨u, cs0, rfl, h7⟩ | ⟨h7, h8⟩
   ·cases h7
    rw [hσ.reals]
    exact hm.cells _ _ _ h5
   ·exact absurd h7.symm (h8 _ _)
 ·rcases zah hj with ⟨rfl, e1⟩ | ⟨hne, hj⟩
  ·cases e1
  ·obtain ⟨b0, h5, h6⟩ := zgc hj
   rcases h6 with ⟨u, cs0, rfl, h7⟩ | ⟨h7, h8⟩
   ·cases h7
   ·rw [<- h7] at h5
    exact hm.own _ _ _ _ _ h5
 ·rcases zah hj with ⟨rfl, e1⟩ | ⟨hne, hj⟩
  ·subst e1
   exact ⟨(hm.sc _ _ hi).1, trivial⟩
  ·obtain ⟨b0, h5, h6⟩ := zgc hj
   obtain ⟨h7, h8⟩ := hm.sc _ _ h5
   refine ⟨h7, ?_⟩
   rcases h6 with ⟨u, cs0, rfl, rfl⟩ | ⟨rfl, _⟩
   ·intro x hx
    obtain ⟨q, hq, rfl⟩ := List.mem_map.1 hx
    exact hσ.lt k _ (h8 q hq)
   ·exact h8
 ·rcases List.mem_cons.1 hG with rfl | hG
  ·exact hU
  ·exact hm.up G hG
 ·have hsub : ∀ g, (cx.H g \/ Own e ((i, LB.dead) :: sbM σ m) g) -> (cx.H g \/ ∃ j, j ≠ i /\ At e m j g) := by
   rintro g (hx | ⟨j, hx⟩)
   ·exact .inl hx
   ·exact .inr ⟨j, hat hx⟩
  rcases List.mem_cons.1 hG with rfl | hG
  ·exact hU _ _ (zax fun g o hg hn => ⟨hg, fun hx => hn (hsub g hx)⟩) hF
  ·refine hm.up G hG _ _ (zax fun g o hg hn => ⟨hg, fun hx => hn ?_⟩) (hm.facts G hG)
   rcases hsub g hx with hx | ⟨j, _, hx⟩
   ·exact .inl hx
   ·exact .inr ⟨j, hx⟩
theorem Mem.others (hm : Mem cx e m k f w) {i g : Nat} (hg : At e m i g) : ¬ (cx.H g \/ ∃ j, j ≠ i /\ At e m j g) := by
 rintro (hx | ⟨j, hne, hx⟩)
 ·rcases hm.free i g hg with h | h
  ·exact Nat.lt_irrefl _ (Nat.lt_of_lt_of_le (cx.hH g hx) h)
  ·exact cx.hG g h hx
 ·exact hne (hm.apart _ _ _ hx hg)
end
def rowA (i : Nat) (v : Value) : SA -> SA := frzA i v
theorem zuo {i : Nat} {v : Value} {e : Env} (h : e.rv i = v) (h1 : v.oneCell' = true) : zg4 (rowA i v) e := ⟨fun x => zlm h x, fun k x hx => zhn h1 hx, fun k x hx => zlc hx⟩
def capA (i g : Nat) : Cap -> Cap
 | .p j => match Nat.beq i j with
  | true => .v (.pointer (some ⟨g, 0, none⟩))
  | false => .p j
 | x => x
def blkA (i g : Nat) : SA -> SA
 | .p j o => match Nat.beq i j with
  | true => .v (.pointer (some ⟨g, o, none⟩))
  | false => .p j o
 | .sl j o n c => match Nat.beq i j with
  | true => .v (.slice (some ⟨g, o, none⟩) n c)
  | false => .sl j o n c
 | .fn f fs cs => .fn f (fs.map (capA i g)) (cs.map (capA i g))
 | x => x
theorem zyp {i g : Nat} {e : Env} (h : e.blk i = g) (x : Cap) : (capA i g x).real e = x.real e := by
 unfold capA
 split
 ·rename_i j
  split
  ·rename_i hb
   obtain rfl : i = j := by rw [<- Nat.beq_eq]; exact hb
   simp only [Cap.real, h]
  ·rfl
 ·rfl
theorem ztj {i g k : Nat} {x : Cap} (h : x.lt k) : (capA i g x).lt k := by
 unfold capA
 split
 ·split
  ·trivial
  ·exact h
 ·exact h
theorem zk1 {i g k : Nat} {x : SA} (h : x.lt k) : (blkA i g x).lt k := by
 unfold blkA
 split
 ·split
  ·rfl
  ·exact h
 ·split
  ·rfl
  ·exact h
 ·refine ⟨fun c hc => ?_, fun c hc => ?_⟩
  ·obtain ⟨q, hq, rfl⟩ := List.mem_map.1 hc
   exact ztj (h.1 q hq)
  ·obtain ⟨q, hq, rfl⟩ := List.mem_map.1 hc
   exact ztj (h.2 q hq)
 ·exact h
theorem zet {i g : Nat} {e : Env} (h : e.blk i = g) : zg4 (blkA i g) e := by
 refine ⟨fun x => ?_, fun k x hx => zk1 hx, fun k x hx => ?_⟩
 ·unfold blkA
  split
  ·split
   ·rename_i hb
    obtain rfl := (Nat.beq_eq ▸ hb : _ = _)
    simp only [SA.real, h]
   ·rfl
  ·split
   ·rename_i hb
    obtain rfl := (Nat.beq_eq ▸ hb : _ = _)
    simp only [SA.real, h]
   ·rfl
  ·simp only [SA.real, List.map_map]
   have e1 : Cap.real e ∘ capA i g = Cap.real e := funext fun c => zyp h c
   rw [e1]
  ·rfl
 ·cases x with
  | v y => exact hx
  | p j o => exact SA.lt0_of (zk1 (x := .p j o) hx)
  | sl j o n c => exact SA.lt0_of (zk1 (x := .sl j o n c) hx)
  | row j => exact hx
  | q j o => exact hx
  | fn f fs cs => exact SA.lt0_of (zk1 (x := .fn f fs cs) hx)
section
variable {P : Program} {f : FuncId} {args : List SV} {st : St} {K : SV -> St -> Prop} {X : List PanicEntry -> St -> Prop}
theorem zfd (i : Nat) (hm : ∀ (cx : Cx) (e : Env) (w : World), Mem cx e st.m st.k st.f w -> ∃ σ F, zg4 σ e /\ zce P f (args.map (sbV σ)) (sbSt σ i F st) K X /\ Mem cx e ((i, .dead) :: sbM σ st.m) st.k (F :: st.f) w) : zce P f args st K X := by
 refine ⟨fun cx e w h hl => ?_⟩
 obtain ⟨σ, F, hσ, hc, h2⟩ := hm cx e w h
 obtain ⟨h3, h4⟩ := hc.run cx e w h2 (fun x hx => by
  obtain ⟨y, hy, rfl⟩ := List.mem_map.1 hx
  exact hσ.vlt (hl y hy))
 refine ⟨h3, ?_⟩
 have he : (args.map (sbV σ)).map (SV.real e) = args.map (SV.real e) := by
  rw [List.map_map]
  exact List.map_congr_left fun x _ => hσ.v x
 rw [he] at h4
 refine h4.mono ?_
 rintro en w' ⟨e', st', h5, h6, h7, h8, h9⟩
 refine ⟨e', st', h5, h6, fun t u hu => ?_, h8, h9⟩
 obtain ⟨u0, h10, h11⟩ := h7 t u hu
 obtain ⟨u1, h12, rfl⟩ := zir h10
 refine ⟨u1, h12, fun hlt => ?_⟩
 obtain ⟨h13, h14⟩ := h11 (hσ.vlt hlt)
 exact ⟨h13, by rw [h14, hσ.v]⟩
theorem zdl (i : Nat) {E z n : Nat} {xs : List Value} (hi : get i st.m = some (.own E z n xs))
  (h : ∀ A cp, (A = none -> n = 0 /\ cp = 0) -> n <= cp -> cp <= maxLen -> zce P f (args.map (sbV (rowA i (.slice A n cp)))) (sbSt (rowA i (.slice A n cp)) i (fun w => SlAt w A xs) st) K X) : zce P f args st K X := by
 refine zfd i fun cx e w hm => ?_
 obtain ⟨A, cp, hv, h1, h2, h3, h4⟩ := hm.row_seen hi (fun g => cx.H g \/ ∃ j, j ≠ i /\ At e st.m j g) (fun g hg => hm.others hg)
 exact ⟨_, _, zuo hv rfl, h A cp h1 h2 h3, hm.spell hi (zuo hv rfl) (SlAt.up A xs) h4⟩
theorem zau (i : Nat) {t : TypeId} {cs : List SA} {vs : List Value} (hi : get i st.m = some (.cells t cs)) (hp : zcp cs = some vs)
  (h : ∀ g, zce P f (args.map (sbV (blkA i g))) (sbSt (blkA i g) i (fun w => SlAt w (some ⟨g, 0, none⟩) vs) st) K X) : zce P f args st K X := by
 refine zfd i fun cx e w hm => ⟨_, _, zet rfl, h (e.blk i), hm.spell hi (zet rfl) (SlAt.up _ _) ?_⟩
 intro j u hj
 have hb := zb5 (H := fun g => cx.H g \/ ∃ j, j ≠ i /\ At e st.m j g) (hm.cells i t cs hi) (hm.others ⟨_, hi, rfl⟩)
 refine ⟨_, rfl, ?_⟩
 rw [zbl, cell_of_row _ (e.blk i) (0 + j) _ _ _ hb, zbn e hp]
 simpa using hj
end
end Go.Proofs.Sym
end
section
set_option linter.unusedVariables false
set_option linter.unusedSimpArgs false
namespace Go.Proofs.Sym
open Go.RowKit Go.Proofs.Base Go.Proofs.Mono
structure LRes where
 v : SV := .one (.v undef)
 m : List (Nat × LB)
 k : Nat
 F : World -> Prop := fun _ => True
 ch : Option (List PanicEntry) := none
def LRes.en (r : LRes) (e : Env) : Ending := match r.ch with
 | none => .returned (r.v.real e)
 | some ch => .panicked ch
structure zav (P : Program) (f : FuncId) (args : List SV) (m : List (Nat × LB)) (b : Nat) (pre : World -> Prop) {X : Type} (ok : X -> Prop) (ret : X -> LRes) : Prop where
 up : Up pre
 run : ∀ (cx : Cx) (e : Env) (w : World), cx.w0 = w -> cx.n0 = b -> cx.e0 = e -> Mem cx e m b [pre] w -> (∀ x ∈ args, x.lt b) -> zga P f /\ Calls P f (args.map (SV.real e)).toArray w fun en w' =>
  ∃ e' x, ok x /\ en = (ret x).en e' /\ (ret x).v.lt (ret x).k /\ Mem cx e' (ret x).m (ret x).k [(ret x).F] w'
def rid (ρ : List Nat) (k i : Nat) : Nat := match ρ[i]? with
 | some j => j
 | none => k + (i - ρ.length)
def lCap (ρ : List Nat) (k : Nat) : Cap -> Cap
 | .p i => .p (rid ρ k i)
 | .v x => .v x
def lA (ρ : List Nat) (k : Nat) : SA -> SA
 | .v x => .v x
 | .p i o => .p (rid ρ k i) o
 | .sl i o n c => .sl (rid ρ k i) o n c
 | .row i => .row (rid ρ k i)
 | .q i o => .q (rid ρ k i) o
 | .fn f fs cs => .fn f (fs.map (lCap ρ k)) (cs.map (lCap ρ k))
def lT (ρ : List Nat) (k : Nat) : TV -> TV
 | .one x => .one (lA ρ k x)
 | .agg xs => .agg (xs.map (lA ρ k))
def lV (ρ : List Nat) (k : Nat) : SV -> SV
 | .one x => .one (lA ρ k x)
 | .agg xs => .agg (xs.map (lA ρ k))
 | .tup xs => .tup (xs.map (lT ρ k))
def lB (ρ : List Nat) (k : Nat) : LB -> LB
 | .dead => .dead
 | .cells t cs => .cells t (cs.map (lA ρ k))
 | .own E z n xs => .own E z n xs
def lM (ρ : List Nat) (k : Nat) : List (Nat × LB) -> List (Nat × LB)
 | [] => []
 | (i, b) :: r => (rid ρ k i, lB ρ k b) :: lM ρ k r
def zn7 : List Nat -> List (Nat × LB) -> List (Nat × LB)
 | [], m => m
 | i :: r, m => (i, .dead) :: zn7 r m
def zr1 (ρ : List Nat) (k : Nat) (m : List (Nat × LB)) : List (Nat × LB) -> Prop
 | [] => True
 | (i, b) :: r => get (rid ρ k i) m = some (lB ρ k b) /\ zr1 ρ k m r
def hiA (b : Nat) : SA -> Bool
 | .row i => Nat.ble b i
 | .q i _ => Nat.ble b i
 | _ => true
def hiT (b : Nat) : TV -> Bool
 | .one x => hiA b x
 | .agg xs => xs.all (hiA b)
def hiV (b : Nat) : SV -> Bool
 | .one x => hiA b x
 | .agg xs => xs.all (hiA b)
 | .tup xs => xs.all (hiT b)
def hiM (b : Nat) : List (Nat × LB) -> Bool
 | [] => true
 | (i, x) :: r => (match x with | .dead => true | .cells _ cs => cs.all (hiA b) | .own .. => Nat.ble b i) && hiM b r
def zmx (ρ : List Nat) (st : St) (r : LRes) : St := { st with m := lM ρ st.k r.m ++ zn7 ρ st.m, k := st.k + (r.k - ρ.length), f := r.F :: st.f }
section
variable {ρ : List Nat} {k : Nat}
theorem zqc {i : Nat} (h : i < ρ.length) : rid ρ k i = ρ[i] := by simp [rid, h]
theorem zho {i : Nat} (h : ρ.length <= i) : rid ρ k i = k + (i - ρ.length) := by
 simp [rid, List.getElem?_eq_none h]
theorem ztk (h : zc4 ρ = true) {i j : Nat} (hi : i < ρ.length) (hj : j < ρ.length) (e : ρ[i] = ρ[j]) : i = j := by
 induction ρ generalizing i j with
 | nil => simp at hi
 | cons y r ih =>
  rw [zc4, Bool.and_eq_true] at h
  have hno : ∀ q (hq : q < r.length), y ≠ r[q] := fun q hq e1 => by
   have := zf5 (x := y) (l := r) (by rw [e1]; exact List.getElem_mem hq)
   rw [this] at h
   simp at h
  match i, j with
  | 0, 0 => rfl
  | 0, j + 1 => exact absurd e (hno j (by simpa using hj))
  | i + 1, 0 => exact absurd e.symm (hno i (by simpa using hi))
  | i + 1, j + 1 => exact congrArg (· + 1) (ih h.2 (by simpa using hi) (by simpa using hj) (by simpa using e))
theorem zd0 (h : zb0 k ρ = true) {i : Nat} : rid ρ k i < k ↔ i < ρ.length := by
 constructor
 ·intro hlt
  refine Nat.lt_of_not_le fun hle => ?_
  rw [zho hle] at hlt
  omega
 ·intro hi
  rw [zqc hi]
  exact zfs h _ (List.getElem_mem hi)
theorem zyv (h : zb0 k ρ = true) (ha : zc4 ρ = true) {i j : Nat} (e : rid ρ k i = rid ρ k j) : i = j := by
 by_cases hi : i < ρ.length
 ·have hj : j < ρ.length := (zd0 h).1 (e ▸ (zd0 h).2 hi)
  rw [zqc hi, zqc hj] at e
  exact ztk ha hi hj e
 ·have hj : ¬ j < ρ.length := fun hj => hi ((zd0 h).1 (e ▸ (zd0 h).2 hj))
  rw [zho (by omega), zho (by omega)] at e
  omega
theorem zx3 (h : zb0 k ρ = true) (ha : zc4 ρ = true) {j : Nat} {x : LB} : ∀ {m : List (Nat × LB)}, get j (lM ρ k m) = some x -> ∃ i x0, rid ρ k i = j /\ get i m = some x0 /\ x = lB ρ k x0
 | [], hg => by cases hg
 | (i0, x0) :: r, hg => by
  simp only [lM] at hg
  rcases zah hg with ⟨rfl, rfl⟩ | ⟨hne, hg⟩
  ·exact ⟨i0, x0, rfl, za4 _ _ _, rfl⟩
  ·obtain ⟨i, x1, h1, h2, h3⟩ := zx3 h ha hg
   exact ⟨i, x1, h1, by rw [zbw (fun e1 => hne (by rw [<- h1, e1]))]; exact h2, h3⟩
theorem zm4 {j : Nat} {x : LB} : ∀ {l : List Nat} {m : List (Nat × LB)}, get j (zn7 l m) = some x -> (j ∈ l /\ x = .dead) \/ (j ∉ l /\ get j m = some x)
 | [], m, h => .inr ⟨by simp, h⟩
 | y :: r, m, h => by
  simp only [zn7] at h
  rcases zah h with ⟨rfl, rfl⟩ | ⟨hne, h⟩
  ·exact .inl ⟨List.mem_cons_self, rfl⟩
  ·rcases zm4 h with ⟨h1, h2⟩ | ⟨h1, h2⟩
   ·exact .inl ⟨List.mem_cons_of_mem _ h1, h2⟩
   ·refine .inr ⟨fun hx => ?_, h2⟩
    rcases List.mem_cons.1 hx with rfl | hx
    ·exact hne rfl
    ·exact h1 hx
theorem zfi {m : List (Nat × LB)} {i : Nat} {b : LB} : ∀ {m0 : List (Nat × LB)}, zr1 ρ k m m0 -> get i m0 = some b -> get (rid ρ k i) m = some (lB ρ k b)
 | [], _, h => by cases h
 | (i0, b0) :: r, hl, h => by
  rcases zah h with ⟨rfl, rfl⟩ | ⟨_, h⟩
  ·exact hl.1
  ·exact zfi hl.2 h
def inE (ρ : List Nat) (k : Nat) (e : Env) : Env := ⟨fun i => e.blk (rid ρ k i), fun i => e.row (rid ρ k i)⟩
def outE (ρ : List Nat) (k : Nat) (e e' : Env) : Env := ⟨fun j => if j < k then e.blk j else e'.blk (j - k + ρ.length), fun j => if j < k then e.row j else e'.row (j - k + ρ.length)⟩
theorem zzp (e : Env) (x : Cap) : (lCap ρ k x).real e = x.real (inE ρ k e) := by cases x <;> rfl
theorem zzm (e : Env) (x : SA) : (lA ρ k x).real e = x.real (inE ρ k e) := by
 cases x with
 | fn f fs cs =>
  simp only [lA, SA.real, List.map_map]
  have : Cap.real e ∘ lCap ρ k = Cap.real (inE ρ k e) := funext fun c => zzp e c
  rw [this]
 | _ => rfl
theorem zuj (e : Env) (xs : List SA) : reals e (xs.map (lA ρ k)) = reals (inE ρ k e) xs := by
 simp only [reals, List.map_map]
 exact List.map_congr_left fun x _ => zzm e x
theorem zabf (e : Env) (x : SV) : (lV ρ k x).real e = x.real (inE ρ k e) := by
 cases x with
 | one x => exact zzm e x
 | agg xs => simp only [lV, SV.real, zuj]
 | tup xs =>
  simp only [lV, SV.real, List.map_map]
  congr 2
  refine List.map_congr_left fun x _ => ?_
  cases x with
  | one x => exact zzm e x
  | agg xs => simp only [Function.comp, lT, TV.real, zuj]
theorem ztv (h : zb0 k ρ = true) {x : Cap} (hx : (lCap ρ k x).lt k) : x.lt ρ.length := by
 cases x with
 | p i => exact (zd0 h).1 hx
 | v x => trivial
theorem zmu (h : zb0 k ρ = true) {x : SA} (hx : (lA ρ k x).lt k) : x.lt ρ.length := by
 cases x with
 | v x => exact hx
 | p i o => exact (zd0 h).1 hx
 | sl i o n c => exact (zd0 h).1 hx
 | row i => exact (zd0 h).1 hx
 | q i o => exact (zd0 h).1 hx
 | fn f fs cs => exact ⟨fun c hc => ztv h (hx.1 _ (List.mem_map_of_mem hc)), fun c hc => ztv h (hx.2 _ (List.mem_map_of_mem hc))⟩
theorem zxu (h : zb0 k ρ = true) {x : SA} (hx : (lA ρ k x).lt0 k) : x.lt0 ρ.length := by
 cases x with
 | v x => trivial
 | p i o => exact zmu (x := .p i o) h hx
 | sl i o n c => exact zmu (x := .sl i o n c) h hx
 | row i => exact zmu (x := .row i) h hx
 | q i o => exact zmu (x := .q i o) h hx
 | fn f fs cs => exact zmu (x := .fn f fs cs) h hx
theorem zabr (h : zb0 k ρ = true) {x : SV} (hx : (lV ρ k x).lt k) : x.lt ρ.length := by
 cases x with
 | one x => exact zxu h hx
 | agg xs => exact fun y hy => zmu h (hx _ (List.mem_map_of_mem hy))
 | tup xs =>
  intro y hy
  have h1 := hx _ (List.mem_map_of_mem hy)
  cases y with
  | one y => exact zxu h h1
  | agg ys => exact fun z hz => zmu h (h1 _ (List.mem_map_of_mem hz))
theorem zke (h : zb0 k ρ = true) {i k' : Nat} (hi : i < k') : rid ρ k i < k + (k' - ρ.length) := by
 by_cases hb : i < ρ.length
 ·have := (zd0 (k := k) h).2 hb
  omega
 ·rw [zho (by omega)]
  omega
theorem zsp (h : zb0 k ρ = true) {k' : Nat} {x : Cap} (hx : x.lt k') : (lCap ρ k x).lt (k + (k' - ρ.length)) := by
 cases x with
 | p i => exact zke h hx
 | v x => trivial
theorem zmd (h : zb0 k ρ = true) {k' : Nat} {x : SA} (hx : x.lt k') : (lA ρ k x).lt (k + (k' - ρ.length)) := by
 cases x with
 | v x => exact hx
 | p i o => exact zke h hx
 | sl i o n c => exact zke h hx
 | row i => exact zke h hx
 | q i o => exact zke h hx
 | fn f fs cs =>
  refine ⟨fun c hc => ?_, fun c hc => ?_⟩
  ·obtain ⟨q, hq, rfl⟩ := List.mem_map.1 hc
   exact zsp h (hx.1 q hq)
  ·obtain ⟨q, hq, rfl⟩ := List.mem_map.1 hc
   exact zsp h (hx.2 q hq)
theorem zxq (h : zb0 k ρ = true) {k' : Nat} {x : SA} (hx : x.lt0 k') : (lA ρ k x).lt0 (k + (k' - ρ.length)) := by
 cases x with
 | v x => trivial
 | p i o => exact zmd (x := .p i o) h hx
 | sl i o n c => exact zmd (x := .sl i o n c) h hx
 | row i => exact zmd (x := .row i) h hx
 | q i o => exact zmd (x := .q i o) h hx
 | fn f fs cs => exact zmd (x := .fn f fs cs) h hx
theorem zaau (h : zb0 k ρ = true) {k' : Nat} {x : SV} (hx : x.lt k') : (lV ρ k x).lt (k + (k' - ρ.length)) := by
 cases x with
 | one x => exact zxq h hx
 | agg xs =>
  intro y hy
  obtain ⟨z, hz, rfl⟩ := List.mem_map.1 hy
  exact zmd h (hx z hz)
 | tup xs =>
  intro y hy
  obtain ⟨z, hz, rfl⟩ := List.mem_map.1 hy
  have h1 := hx z hz
  cases z with
  | one z => exact zxq h h1
  | agg zs =>
   intro y hy
   obtain ⟨q, hq, rfl⟩ := List.mem_map.1 hy
   exact zmd h (h1 q hq)
variable {e e' : Env}
theorem zjd (h : zb0 k ρ = true) (hids : ∀ i, i < ρ.length -> e'.blk i = (inE ρ k e).blk i) (i : Nat) : (outE ρ k e e').blk (rid ρ k i) = e'.blk i := by
 unfold outE
 simp only
 by_cases hb : i < ρ.length
 ·rw [if_pos ((zd0 h).2 hb), hids i hb]
  rfl
 ·rw [if_neg (fun hx => hb ((zd0 h).1 hx)), zho (by omega)]
  congr 1
  omega
theorem zk8 {i : Nat} (hb : ρ.length <= i) : (outE ρ k e e').row (rid ρ k i) = e'.row i := by
 unfold outE
 simp only
 rw [zho hb, if_neg (by omega)]
 congr 1
 omega
theorem zv9 (h : zb0 k ρ = true) (hids : ∀ i, i < ρ.length -> e'.blk i = (inE ρ k e).blk i) (x : Cap) : (lCap ρ k x).real (outE ρ k e e') = x.real e' := by
 cases x with
 | p i => simp only [lCap, Cap.real, zjd h hids]
 | v x => rfl
theorem zuh (h : zb0 k ρ = true) (hids : ∀ i, i < ρ.length -> e'.blk i = (inE ρ k e).blk i) {x : SA} (hx : hiA ρ.length x = true) : (lA ρ k x).real (outE ρ k e e') = x.real e' := by
 cases x with
 | v x => rfl
 | p i o => simp only [lA, SA.real, zjd h hids]
 | sl i o n c => simp only [lA, SA.real, zjd h hids]
 | row i => simp only [lA, SA.real, Env.rv, zk8 (Nat.le_of_ble_eq_true hx)]
 | q i o => simp only [lA, SA.real, zk8 (Nat.le_of_ble_eq_true hx)]
 | fn f fs cs =>
  simp only [lA, SA.real, List.map_map]
  have : Cap.real (outE ρ k e e') ∘ lCap ρ k = Cap.real e' := funext fun c => zv9 h hids c
  rw [this]
theorem zoh (h : zb0 k ρ = true) (hids : ∀ i, i < ρ.length -> e'.blk i = (inE ρ k e).blk i) {xs : List SA} (hx : xs.all (hiA ρ.length) = true) : reals (outE ρ k e e') (xs.map (lA ρ k)) = reals e' xs := by
 simp only [reals, List.map_map]
 exact List.map_congr_left fun x hm => zuh h hids (List.all_eq_true.1 hx x hm)
theorem zxr (h : zb0 k ρ = true) (hids : ∀ i, i < ρ.length -> e'.blk i = (inE ρ k e).blk i) {x : SV} (hx : hiV ρ.length x = true) : (lV ρ k x).real (outE ρ k e e') = x.real e' := by
 cases x with
 | one x => exact zuh h hids hx
 | agg xs => simp only [lV, SV.real, zoh h hids hx]
 | tup xs =>
  simp only [lV, SV.real, List.map_map]
  congr 2
  refine List.map_congr_left fun x hm => ?_
  have h1 := List.all_eq_true.1 hx x hm
  cases x with
  | one x => exact zuh h hids h1
  | agg xs => simp only [Function.comp, lT, TV.real, zoh h hids h1]
theorem zl3 {b i : Nat} {x : LB} : ∀ {m : List (Nat × LB)}, hiM b m = true -> get i m = some x -> (match x with | .dead => true | .cells _ cs => cs.all (hiA b) | .own .. => Nat.ble b i) = true
 | [], _, h => by cases h
 | (i0, x0) :: r, hm, h => by
  simp only [hiM, Bool.and_eq_true] at hm
  rcases zah h with ⟨rfl, rfl⟩ | ⟨_, h⟩
  ·exact hm.1
  ·exact zl3 hm.2 h
end
end Go.Proofs.Sym
end
section
set_option linter.unusedVariables false
set_option linter.unusedSimpArgs false
namespace Go.Proofs.Sym
open Go.RowKit Go.Proofs.Base Go.Proofs.Mono
section
variable {cx : Cx} {e : Env} {m : List (Nat × LB)} {k : Nat} {f : List (World -> Prop)} {w : World} {ρ : List Nat} {m0 : List (Nat × LB)}
def zoi (ρ : List Nat) (k : Nat) (e : Env) (m0 : List (Nat × LB)) (g : Nat) : Prop := ∃ i, At (inE ρ k e) m0 i g
def zsa (cx : Cx) (ρ : List Nat) (k : Nat) (e : Env) (m m0 : List (Nat × LB)) (w : World) (hm : Mem cx e m k f w) (hG : ∀ g, zoi ρ k e m0 g -> Own e m g) : Cx :=
 { w0 := w, G := zoi ρ k e m0, H := fun g => (cx.H g \/ Own e m g) /\ ¬ zoi ρ k e m0 g, hH := fun g hg => hm.hid g hg.1, hG := fun g hg hH => hH.2 hg, e0 := inE ρ k e, n0 := ρ.length, n := 0, d := [] }
theorem zwy (e : Env) (i : Nat) (b : LB) : (lB ρ k b).block e (rid ρ k i) = b.block (inE ρ k e) i := by cases b <;> rfl
theorem zfp (hl : zr1 ρ k m m0) {i g : Nat} (h : At (inE ρ k e) m0 i g) : At e m (rid ρ k i) g := by
 obtain ⟨b, hb, hg⟩ := h
 exact ⟨_, zfi hl hb, by rw [zwy]; exact hg⟩
theorem Mem.lend (hm : Mem cx e m k f w) (hρ : zb0 k ρ = true) (hap : zc4 ρ = true) (hl : zr1 ρ k m m0) {pre : World -> Prop} (hu : Up pre) (hp : ∀ w, AllF f w -> pre w) :
  ∃ hG, Mem (zsa cx ρ k e m m0 w hm hG) (inE ρ k e) m0 ρ.length [pre] w := by
 have hG : ∀ g, zoi ρ k e m0 g -> Own e m g := fun g ⟨i, hi⟩ => ⟨_, zfp hl hi⟩
 refine ⟨hG, Fr.refl _ _, fun i hi => rfl, Nat.le_refl _, fun i t cs hi => ?_, fun i E z n xs hi => ?_, fun i b hi => ?_, fun i g hg => .inr ⟨i, hg⟩, fun i j g hi hj => zyv hρ hap (hm.apart _ _ _ (zfp hl hi) (zfp hl hj)), fun F hF => ?_, fun F hF => ?_⟩
 ·have h1 := hm.cells _ _ _ (zfi hl hi)
  rw [zuj] at h1
  exact h1
 ·exact hm.own _ _ _ _ _ (zfi hl hi)
 ·have h1 := hm.sc _ _ (zfi hl hi)
  refine ⟨(zd0 hρ).1 h1.1, ?_⟩
  cases b with
  | dead => trivial
  | own E z n xs => trivial
  | cells t cs => exact fun c hc => zmu hρ (h1.2 _ (List.mem_map_of_mem hc))
 ·rw [List.mem_singleton.1 hF]
  exact hu
 ·rw [List.mem_singleton.1 hF]
  refine hu _ _ (zax fun g o hg hn => ⟨hg, fun hx => hn ?_⟩) (hp _ hm.hidden)
  rcases hx with hx | ⟨i, hx⟩
  ·exact hx.1
  ·exact .inr ⟨_, zfp hl hx⟩
theorem Mem.back (hm : Mem cx e m k f w) (hρ : zb0 k ρ = true) (hap : zc4 ρ = true) (hl : zr1 ρ k m m0) (hG' : ∀ g, zoi ρ k e m0 g -> Own e m g) {e' : Env} {m' : List (Nat × LB)} {k' : Nat} {F : World -> Prop} {w' : World}
  (hc : Mem (zsa cx ρ k e m m0 w hm hG') e' m' k' [F] w') (hhi : hiM ρ.length m' = true) :
  e.eqTo k (outE ρ k e e') /\ Mem cx (outE ρ k e e') (lM ρ k m' ++ zn7 ρ m) (k + (k' - ρ.length)) (F :: f) w' := by
 have hids : ∀ i, i < ρ.length -> e'.blk i = (inE ρ k e).blk i := hc.ids
 have heq : e.eqTo k (outE ρ k e e') := fun i hi => ⟨by simp only [outE, if_pos hi], by simp only [outE, if_pos hi]⟩
 refine ⟨heq, ?_⟩
 -- which entry
 have hget : ∀ {j x}, get j (lM ρ k m' ++ zn7 ρ m) = some x -> (∃ i x0, rid ρ k i = j /\ get i m' = some x0 /\ x = lB ρ k x0) \/ x = .dead /\ j < k \/ (j ∉ ρ /\ get j m = some x) := by
  intro j x hj
  rw [zal] at hj
  split at hj
  ·rename_i v hv
   cases hj
   exact .inl (zx3 hρ hap hv)
  ·rcases zm4 hj with ⟨h1, h2⟩ | ⟨h1, h2⟩
   ·exact .inr (.inl ⟨h2, zfs hρ j h1⟩)
   ·exact .inr (.inr ⟨h1, h2⟩)
 have hblk : ∀ {i x0}, get i m' = some x0 -> (lB ρ k x0).block (outE ρ k e e') (rid ρ k i) = x0.block e' i := by
  intro i x0 hi
  have h1 := zl3 hhi hi
  cases x0 with
  | dead => rfl
  | cells t cs => simp only [lB, LB.block, zjd hρ hids]
  | own E z n xs => simp only [lB, LB.block, Env.rv, zk8 (Nat.le_of_ble_eq_true h1)]
 have hat : ∀ {j g}, At (outE ρ k e e') (lM ρ k m' ++ zn7 ρ m) j g -> (∃ i, rid ρ k i = j /\ At e' m' i g) \/ (j ∉ ρ /\ At e m j g) := by
  rintro j g ⟨b, hb, hg⟩
  rcases hget hb with ⟨i, x0, rfl, h2, rfl⟩ | ⟨rfl, _⟩ | ⟨h1, h2⟩
  ·exact .inl ⟨i, rfl, x0, h2, by rw [<- hblk h2]; exact hg⟩
  ·cases hg
  ·exact .inr ⟨h1, b, h2, by rw [<- LB.block_eq heq (hm.sc _ _ h2).1]; exact hg⟩
 have hnot : ∀ {j g}, j ∉ ρ -> At e m j g -> ¬ zoi ρ k e m0 g := by
  rintro j g hj hg ⟨i, hi⟩
  have h1 := zfp hl hi
  have h2 := hm.apart _ _ _ hg h1
  have hil : i < ρ.length := by
   obtain ⟨b, hb, _⟩ := h1
   exact (zd0 hρ).1 (hm.sc _ _ hb).1
  rw [zqc hil] at h2
  exact hj (h2 ▸ List.getElem_mem hil)
 have hsame : ∀ {j g}, j ∉ ρ -> At e m j g -> w'.heap[g]? = w.heap[g]? := fun hj hg => hc.fr.block _ (hm.lt hg) (hnot hj hg)
 refine ⟨hm.fr.trans hc.fr fun g hg hx => ?_, fun i hi => ?_, Nat.le_trans hm.low (Nat.le_add_right _ _), fun j t cs hj => ?_, fun j E z n xs hj => ?_, fun j b hj => ?_, fun j g hg => ?_, fun j l g hj hlg => ?_, fun G hG => ?_, fun G hGf => ?_⟩
 ·obtain ⟨i, hi⟩ := hx
  rcases hm.free _ g (zfp hl hi) with h1 | h1
  ·omega
  ·exact h1
 ·rw [(heq i (Nat.lt_of_lt_of_le hi hm.low)).1]
  exact hm.ids i hi
 ·rcases hget hj with ⟨i, x0, rfl, h2, h3⟩ | ⟨h1, _⟩ | ⟨h1, h2⟩
  ·cases x0 with
   | cells t0 cs0 =>
    simp only [lB, LB.cells.injEq] at h3
    obtain ⟨rfl, rfl⟩ := h3
    rw [zjd hρ hids, zoh hρ hids (zl3 hhi h2)]
    exact hc.cells _ _ _ h2
   | _ => cases h3
  ·cases h1
  ·rw [(heq j (hm.sc _ _ h2).1).1, zdb heq (hm.sc _ _ h2).2]
   exact (hsame h1 ⟨_, h2, rfl⟩).trans (hm.cells _ _ _ h2)
 ·rcases hget hj with ⟨i, x0, rfl, h2, h3⟩ | ⟨h1, _⟩ | ⟨h1, h2⟩
  ·cases x0 with
   | own E0 z0 n0 xs0 =>
    simp only [lB, LB.own.injEq] at h3
    obtain ⟨rfl, rfl, rfl, rfl⟩ := h3
    have := zl3 hhi h2
    simp only [Env.rv, zk8 (Nat.le_of_ble_eq_true this)]
    exact hc.own _ _ _ _ _ h2
   | _ => cases h3
  ·cases h1
  ·simp only [Env.rv, (heq j (hm.sc _ _ h2).1).2]
   exact zd4 (hm.own _ _ _ _ _ h2) fun g hg => hsame h1 ⟨_, h2, hg⟩
 ·rcases hget hj with ⟨i, x0, rfl, h2, rfl⟩ | ⟨rfl, h1⟩ | ⟨h1, h2⟩
  ·have h3 := hc.sc _ _ h2
   refine ⟨zke hρ h3.1, ?_⟩
   cases x0 with
   | dead => trivial
   | own E z n xs => trivial
   | cells t cs =>
    intro c hcm
    obtain ⟨q, hq, rfl⟩ := List.mem_map.1 hcm
    exact zmd hρ (h3.2 q hq)
  ·exact ⟨Nat.lt_of_lt_of_le h1 (Nat.le_add_right _ _), trivial⟩
  ·have h3 := hm.sc _ _ h2
   exact ⟨Nat.lt_of_lt_of_le h3.1 (Nat.le_add_right _ _), LB.lt_mono (Nat.le_add_right _ _) h3.2⟩
 ·rcases hat hg with ⟨i, rfl, hi⟩ | ⟨_, hj⟩
  ·rcases hc.free i g hi with h1 | ⟨q, hq⟩
   ·exact .inl (Nat.le_trans hm.fr.size h1)
   ·exact hm.free _ g (zfp hl hq)
  ·exact hm.free _ g hj
 ·have mix : ∀ {i j}, At e' m' i g -> j ∉ ρ -> At e m j g -> False := by
   intro i j hi hj hg
   rcases hc.free i g hi with h1 | h1
   ·have := hm.lt hg
    have h1 : w.heap.size <= g := h1
    omega
   ·exact hnot hj hg h1
  rcases hat hj with ⟨i, rfl, hi⟩ | ⟨h1, h2⟩
  ·rcases hat hlg with ⟨i2, rfl, hi2⟩ | ⟨h3, h4⟩
   ·rw [hc.apart _ _ _ hi hi2]
   ·exact (mix hi h3 h4).elim
  ·rcases hat hlg with ⟨i2, rfl, hi2⟩ | ⟨h3, h4⟩
   ·exact (mix hi2 h1 h2).elim
   ·exact hm.apart _ _ _ h2 h4
 ·rcases List.mem_cons.1 hG with rfl | hG
  ·exact hc.up _ List.mem_cons_self
  ·exact hm.up G hG
 ·rcases List.mem_cons.1 hGf with rfl | hGf
  ·refine hc.up _ List.mem_cons_self _ _ (zax fun g o hg hn => ⟨hg, fun hx => hn ?_⟩) (hc.facts _ List.mem_cons_self)
   rcases hx with hx | ⟨j, hx⟩
   ·refine .inl ⟨.inl hx, ?_⟩
    rintro ⟨i, hi⟩
    exact hm.others (zfp hl hi) (.inl hx)
   ·rcases hat hx with ⟨i, rfl, hi⟩ | ⟨h1, h2⟩
    ·exact .inr ⟨i, hi⟩
    ·exact .inl ⟨.inr ⟨j, h2⟩, hnot h1 h2⟩
  ·refine hm.up G hGf _ _ (zax fun g o hg hn => ?_) (hm.facts G hGf)
   have hlt := (Array.getElem?_eq_some_iff.1 hg).1
   refine ⟨(hc.fr.block g hlt (fun hx => hn (.inr (hG' g hx)))).trans hg, fun hx => hn ?_⟩
   rcases hx with hx | ⟨j, hx⟩
   ·exact .inl hx
   ·rcases hat hx with ⟨i, rfl, hi⟩ | ⟨h1, h2⟩
    ·rcases hc.free i g hi with h1 | h1
     ·have h1 : w.heap.size <= g := h1
      omega
     ·exact .inr (hG' g h1)
    ·exact .inr ⟨j, h2⟩
end
theorem zab {P : Program} {f : FuncId} {args args0 : List SV} {st : St} {K : SV -> St -> Prop} {Xc : List PanicEntry -> St -> Prop} {m0 : List (Nat × LB)} {pre : World -> Prop} {X : Type} {ok : X -> Prop} {ret : X -> LRes}
  (ρ : List Nat) (h : zav P f args0 m0 ρ.length pre ok ret) (ha : args = args0.map (lV ρ st.k)) (hl : zr1 ρ st.k st.m m0) (hρ : zb0 st.k ρ = true) (hap : zc4 ρ = true) (hp : ∀ w, AllF st.f w -> pre w)
  (hhi : ∀ x, ok x -> hiM ρ.length (ret x).m = true /\ hiV ρ.length (ret x).v = true)
  (hK : ∀ x, ok x -> match (ret x).ch with | none => K (lV ρ st.k (ret x).v) (zmx ρ st (ret x)) | some ch => Xc ch (zmx ρ st (ret x))) : zce P f args st K Xc := by
 refine ⟨fun cx e w hm hlt => ?_⟩
 subst ha
 obtain ⟨hG, h1⟩ := hm.lend hρ hap hl h.up hp
 obtain ⟨h2, h3⟩ := h.run _ _ w rfl rfl rfl h1 (fun x hx => zabr hρ (hlt _ (List.mem_map_of_mem hx)))
 refine ⟨h2, ?_⟩
 have hargs : (args0.map (lV ρ st.k)).map (SV.real e) = args0.map (SV.real (inE ρ st.k e)) := by
  rw [List.map_map]
  exact List.map_congr_left fun x _ => zabf e x
 rw [hargs]
 refine h3.mono ?_
 rintro en w' ⟨e', x, hx, rfl, hv, hc⟩
 obtain ⟨g1, g2⟩ := hhi x hx
 obtain ⟨h4, h5⟩ := hm.back hρ hap hl hG hc g1
 refine ⟨outE ρ st.k e e', zmx ρ st (ret x), h4, Nat.le_add_right _ _, Slt.of_eq h4 (Nat.le_add_right _ _) rfl, rfl, h5, ?_⟩
 have hk := hK x hx
 unfold LRes.en
 cases hch : (ret x).ch with
 | none =>
  rw [hch] at hk
  exact .inl ⟨_, by rw [zxr hρ hc.ids g2], zaau hρ hv, hk⟩
 | some ch =>
  rw [hch] at hk
  exact .inr ⟨ch, rfl, hk⟩
def EntR (st : St) (v : SV) (r : LRes) : Prop := Ent { st with s := [(0, v)] } { s := [(0, r.v)], m := r.m, k := r.k, f := [r.F], b := st.b }
def zabi (T : Tab) (rs : List ResultVar) (b : Nat) {X : Type} (ok : X -> Prop) (ret : X -> LRes) : Exit -> St -> Prop
 | .normal, st => ∃ v, zgl T st rs = some v /\ ∃ x, ok x /\ (ret x).ch = none /\ EntR st v (ret x)
 | .ret, st => ∃ v, zgl T st rs = some v /\ ∃ x, ok x /\ (ret x).ch = none /\ EntR st v (ret x)
 | .panic ch, st => ∃ x, ok x /\ (ret x).ch = some ch /\ EntR st (.one (.v undef)) (ret x)
 | _, _ => False
theorem zlr {st : St} {v : SV} {r : LRes} (h : EntR st v r) {cx : Cx} {e : Env} {w : World} (hm : Mem cx e st.m st.k st.f w) (hb : cx.n0 = st.b) (hv : v.lt st.k) : ∃ e', v.real e = r.v.real e' /\ r.v.lt r.k /\ Mem cx e' r.m r.k [r.F] w := by
 have hs : ∀ i u, get i [(0, v)] = some u -> u.lt st.k /\ (#[v.real e] : Array Value)[i]? = some (u.real e) := fun i u hi => by
  rcases zah hi with ⟨rfl, rfl⟩ | ⟨_, hi⟩
  ·exact ⟨hv, rfl⟩
  ·cases hi
 obtain ⟨e', h1⟩ := h.run { cx with n := 1, d := [] } e { tmps := #[v.real e], defers := [] } w ⟨hb, rfl, rfl, hs, ⟨hm.fr, hm.ids, hm.low, hm.cells, hm.own, hm.sc, hm.free, hm.apart, hm.up, hm.facts⟩⟩
 obtain ⟨h2, h3⟩ := h1.slots 0 r.v (za4 _ _ _)
 have hm' := h1.mem
 refine ⟨e', ?_, h2, ⟨hm'.fr, hm'.ids, hm'.low, hm'.cells, hm'.own, hm'.sc, hm'.free, hm'.apart, hm'.up, hm'.facts⟩⟩
 simpa using h3
theorem zph {T : Tab} {cx : Cx} {e : Env} {st : St} {a : Act} {w : World} (hS : Sat cx e st a w) {rs : List ResultVar} {v : SV} (h : zgl T st rs = some v) : v.lt st.k := by
 have hr : ∀ {r : ResultVar} {v : SV}, zjc T st r = some v -> v.lt st.k := by
  intro r v h
  cases r with
  | tmp t => exact (hS.slots _ _ h).1
  | cell t ty =>
   simp only [zjc] at h
   split at h
   ·split at h
    ·rename_i hj
     exact (zd7 h e (hS.mem.sc _ _ hj).2).1
    ·cases h
   ·cases h
 unfold zgl at h
 split at h
 ·exact hr h
 ·split at h
  ·rename_i vs hvs
   split at h
   ·rename_i ts hts
    cases h
    have h1 : ∀ x ∈ vs, x.lt st.k := zeh (fun x y hy => hr hy) hvs
    intro t ht
    have key : ∀ {vs : List SV} {ts : List TV}, za1 toTV vs = some ts -> (∀ x ∈ vs, x.lt st.k) -> ∀ t ∈ ts, t.lt st.k := by
     intro vs
     induction vs with
     | nil => intro ts h _ t ht; cases h; cases ht
     | cons x r ih =>
      intro ts h hx t ht
      simp only [za1] at h
      split at h
      ·rename_i y ys h2 h3
       cases h
       rcases List.mem_cons.1 ht with rfl | ht
       ·have := hx x List.mem_cons_self
        cases x with
        | one q => cases h2; exact this
        | agg q => cases h2; exact this
        | tup q => cases h2
       ·exact ih h3 (fun z hz => hx z (List.mem_cons_of_mem _ hz)) t ht
      ·cases h
    exact key hts h1 t ht
   ·cases h
  ·cases h
theorem zas {P : Program} {T : Tab} (hT : T.Ok P) {f : FuncId} {fn : Func} {c : Code} (N : Nat) (rs : List ResultVar) (hf : P.funcs[f]? = some fn) (hN : fn.ntmps = N) (hrs : fn.results.toList = rs) (hn : (fn.name == "runtime.NumGoroutine") = false) (hb : fn.body = some c)
  (args : List SV) (hl : args.length <= N) {m : List (Nat × LB)} {b : Nat} {pre : World -> Prop} {X : Type} {ok : X -> Prop} {ret : X -> LRes} (hpre : Up pre)
  (h : zai P N c (zabi T rs b ok ret) { s := zfu 0 args, m := m, k := b, f := [pre], b := b }) : zav P f args m b pre ok ret := by
 subst hN hrs
 refine ⟨hpre, fun cx e w hw0 hn0 he0 hm hlt => ⟨⟨fn, hf, hn, by rw [hb]; rfl⟩, calls_of_wp hf hb ?_⟩⟩
 have hm' : Mem { cx with n := fn.ntmps, d := [] } e m b [pre] w := ⟨hm.fr, hm.ids, hm.low, hm.cells, hm.own, hm.sc, hm.free, hm.apart, hm.up, hm.facts⟩
 refine wp_mono (h.run { cx with n := fn.ntmps, d := [] } e _ w rfl ⟨hn0, by simp; omega, rfl, fun i v hi => ?_, hm'⟩) ?_
 ·obtain ⟨_, h2⟩ := zhc hi
  simp only [Nat.sub_zero] at h2
  have hil := (List.getElem?_eq_some_iff.1 h2).1
  refine ⟨hlt v (List.mem_of_getElem? h2), ?_⟩
  rw [Array.getElem?_append_left (by simpa using hil)]
  simp [h2]
 ·rintro ex a' w' ⟨e', st', hK, hS'⟩
  have hS2 : Mem cx e' st'.m st'.k st'.f w' := ⟨hS'.mem.fr, hS'.mem.ids, hS'.mem.low, hS'.mem.cells, hS'.mem.own, hS'.mem.sc, hS'.mem.free, hS'.mem.apart, hS'.mem.up, hS'.mem.facts⟩
  have fin : ∀ v, zgl T st' fn.results.toList = some v -> (∃ x, ok x /\ (ret x).ch = none /\ EntR st' v (ret x)) -> a'.defers = [] /\ ∃ v, (results fn a'.tmps).run P w' = .ok v w' /\ ∃ e' x, ok x /\ Ending.returned v = (ret x).en e' /\ (ret x).v.lt (ret x).k /\ Mem cx e' (ret x).m (ret x).k [(ret x).F] w' := by
   rintro v hv ⟨x, hx, hch, hE⟩
   obtain ⟨e2, h1, h2, h3⟩ := zlr hE hS2 hS'.base (zph hS' hv)
   exact ⟨hS'.defers, _, zg9 hT hS' hv, e2, x, hx, by unfold LRes.en; rw [hch, h1], h2, h3⟩
  cases ex with
  | normal => obtain ⟨v, hv, hx⟩ := hK; exact fin v hv hx
  | ret => obtain ⟨v, hv, hx⟩ := hK; exact fin v hv hx
  | panic ch =>
   obtain ⟨x, hx, hch, hE⟩ := hK
   obtain ⟨e2, h1, h2, h3⟩ := zlr hE hS2 hS'.base trivial
   exact ⟨hS'.defers, e2, x, hx, by unfold LRes.en; rw [hch], h2, h3⟩
  | _ => exact hK.elim
end Go.Proofs.Sym
end
section
set_option linter.unusedVariables false
set_option linter.unusedSimpArgs false
namespace Go.Proofs.YtmkpiekbpakigaaDoor
open Go.RowKit Go.Proofs.Base Go.Proofs.Sym
inductive TT where
 | mk (kind n : Int) (name : ByteArray) (la : Option Addr) (lc : Nat) (ls : List Lv) (aa : Option Addr) (ac : Nat) (args : List TT)
def TT.kind : TT -> Int | .mk k _ _ _ _ _ _ _ _ => k
def TT.n : TT -> Int | .mk _ n _ _ _ _ _ _ _ => n
def TT.name : TT -> ByteArray | .mk _ _ s _ _ _ _ _ _ => s
def TT.ls : TT -> List Lv | .mk _ _ _ _ _ l _ _ _ => l
def TT.aa : TT -> Option Addr | .mk _ _ _ _ _ _ a _ _ => a
def TT.args : TT -> List TT | .mk _ _ _ _ _ _ _ _ l => l
def TT.cells : TT -> List Value
 | .mk kind n name la lc ls aa ac args => [.int .i64 kind, .int .i64 n, .string name, .slice la ls.length lc, .slice aa args.length ac]
def TT.val (t : TT) : Value := .agg t.cells.toArray
inductive Tm where
 | mk (kind n : Int) (name : ByteArray) (ls : List Lv) (args : List Tm)
def TT.tm : TT -> Tm
 | .mk kind n name _ _ ls _ _ args => .mk kind n name ls (args.map TT.tm)
def I64 (n : Int) : Prop := -9223372036854775808 <= n /\ n <= 9223372036854775807
structure zni (w : World) (kind n : Int) (name : ByteArray) (la : Option Addr) (lc : Nat) (ls : List Lv) (aa : Option Addr) (ac m : Nat) : Prop where
 hkind : I64 kind
 hn : I64 n
 hname : name.size <= maxLen
 hls : zcz w la ls
 hla : la = none -> ls.length = 0 /\ lc = 0
 hlc : ls.length <= lc
 hlm : lc <= maxLen
 haa : aa = none -> m = 0 /\ ac = 0
 hac : m <= ac
 ham : ac <= maxLen
mutual
def TTIn (w : World) : TT -> Prop
 | .mk kind n name la lc ls aa ac args => zni w kind n name la lc ls aa ac args.length /\ TTs w aa 0 args
def TTs (w : World) (aa : Option Addr) : Nat -> List TT -> Prop
 | _, [] => True
 | j, t :: r => (∃ a, aa = some a /\ ∀ l u, t.cells[l]? = some u -> w.cell? ((a.add (j * 5)).add l) = some u) /\ TTIn w t /\ TTs w aa (j + 1) r
end
theorem zni.up {kind n : Int} {name : ByteArray} {la : Option Addr} {lc : Nat} {ls : List Lv} {aa : Option Addr} {ac m : Nat} : Up fun w => zni w kind n name la lc ls aa ac m :=
 fun w w' h hn => ⟨hn.hkind, hn.hn, hn.hname, zcz.up _ _ _ _ h hn.hls, hn.hla, hn.hlc, hn.hlm, hn.haa, hn.hac, hn.ham⟩
mutual
theorem TTIn.up {w w' : World} (h : Sub w w') : ∀ (t : TT), TTIn w t -> TTIn w' t
 | .mk kind n name la lc ls aa ac args, ht => by
  unfold TTIn at *
  exact ⟨zni.up _ _ h ht.1, TTs.up h aa 0 args ht.2⟩
theorem TTs.up {w w' : World} (h : Sub w w') (aa : Option Addr) : ∀ (j : Nat) (ts : List TT), TTs w aa j ts -> TTs w' aa j ts
 | _, [], _ => by unfold TTs; trivial
 | j, t :: r, ht => by
  unfold TTs at *
  obtain ⟨⟨a, ha, hc⟩, h1, h2⟩ := ht
  exact ⟨⟨a, ha, fun l u hl => h.cell (hc l u hl)⟩, TTIn.up h t h1, TTs.up h aa (j + 1) r h2⟩
end
theorem TTIn.upS (t : TT) : Up fun w => TTIn w t := fun _ _ h ht => TTIn.up h t ht
theorem TTs.get {w : World} {aa : Option Addr} : ∀ {ts : List TT} {i j : Nat} {t : TT}, TTs w aa i ts -> ts[j]? = some t -> (∃ a, aa = some a /\ ∀ l u, t.cells[l]? = some u -> w.cell? ((a.add ((i + j) * 5)).add l) = some u) /\ TTIn w t
 | [], i, j, t, _, h => by simp at h
 | t0 :: r, i, 0, t, ht, h => by
  unfold TTs at ht
  simp only [List.getElem?_cons_zero, Option.some.injEq] at h
  subst h
  exact ⟨ht.1, ht.2.1⟩
 | t0 :: r, i, j + 1, t, ht, h => by
  unfold TTs at ht
  simp only [List.getElem?_cons_succ] at h
  have := TTs.get ht.2.2 h
  rw [show i + 1 + j = i + (j + 1) by omega] at this
  exact this
theorem TT.cells_one (t : TT) : ∀ v ∈ t.cells, v.oneCell' = true := by
 intro v hv
 cases t
 simp only [TT.cells, List.mem_cons, List.not_mem_nil, or_false] at hv
 rcases hv with rfl | rfl | rfl | rfl | rfl <;> rfl
theorem TT.cells_len (t : TT) : t.cells.length = 5 := by cases t; rfl
theorem TTIn.node {w : World} {kind n : Int} {name : ByteArray} {la : Option Addr} {lc : Nat} {ls : List Lv} {aa : Option Addr} {ac : Nat} {args : List TT} (h : TTIn w (.mk kind n name la lc ls aa ac args)) : zni w kind n name la lc ls aa ac args.length := by
 unfold TTIn at h
 exact h.1
theorem TTIn.arg {w : World} {kind n : Int} {name : ByteArray} {la : Option Addr} {lc : Nat} {ls : List Lv} {aa : Option Addr} {ac : Nat} {args : List TT} (h : TTIn w (.mk kind n name la lc ls aa ac args)) {j : Nat} {t : TT} (hj : args[j]? = some t) :
  (∃ a, aa = some a /\ ∀ l u, t.cells[l]? = some u -> w.cell? ((a.add (j * 5)).add l) = some u) /\ TTIn w t := by
 unfold TTIn at h
 have := TTs.get h.2 hj
 rwa [Nat.zero_add] at this
mutual
def zdu (most : Int) : TT -> Int
 | .mk _ _ _ _ _ ls _ _ args => if most + 1 < zee most args (IntKind.i64.wrap (1 + ls.length)) then most + 1 else zee most args (IntKind.i64.wrap (1 + ls.length))
def zee (most : Int) : List TT -> Int -> Int
 | [], n => n
 | t :: r, n => if n <= most then zee most r (IntKind.i64.wrap (n + zdu most t)) else n
end
end Go.Proofs.YtmkpiekbpakigaaDoor
end
section
set_option linter.unusedVariables false
set_option linter.unusedSimpArgs false
namespace Go.Proofs.YtmkpiekbpakigaaDoor
open Go.RowKit Go.Proofs.Base Go.Proofs.Sym
theorem zd5 {kind n : Int} {name : ByteArray} {la : Option Addr} {lc : Nat} {ls : List Lv} {aa : Option Addr} {ac : Nat} {args : List TT} {t : TT} (h : t ∈ args) : SizeOf.sizeOf t < SizeOf.sizeOf (TT.mk kind n name la lc ls aa ac args) := by
 have := List.sizeOf_lt_of_mem h
 simp only [TT.mk.sizeOf_spec]
 omega
theorem za9 {n : Int} (h0 : -9223372036854775808 <= n) (h1 : n <= 9223372036854775807) : IntKind.i64.wrap n = n := IntWalk.i64_in _ ⟨h0, h1⟩
theorem oneI {x y : Int} (h : x = y) : SV.one (SA.v (.int .i64 x)) = SV.one (SA.v (.int .i64 y)) := by rw [h]
theorem zs1 {most : Int} (h0 : 0 <= most) (h1 : most <= 1099511627776) (acc : Int) : Value.int .i64 (if IntKind.i64.wrap (most + 1) < acc then IntKind.i64.wrap (most + 1) else acc) = .int .i64 (if most + 1 < acc then most + 1 else acc) := by
 rw [za9 (by omega) (by omega)]
set_option maxHeartbeats 1000000 in
theorem zpk (most : Int) (hm0 : 0 <= most) (hm1 : most <= 1099511627776) (t : TT) : PCall Tryd.prog 66 [t.val, .int .i64 most] (fun w => TTIn w t) (fun r => r = .int .i64 (zdu most t)) (fun _ _ => True) := by
 induction hsz : SizeOf.sizeOf t using Nat.strongRecOn generalizing t with
 | _ z ih =>
 obtain ⟨kind, n, name, la, lc, ls, aa, ac, args⟩ := t
 subst hsz
 by_cases hal : args.length <= 9223372036854775807
 rotate_left
 ·refine ⟨zhz Tryd.func66 (by kernel_rfl) (by kernel_rfl), fun _ => Up.true, fun w H hH hp => ?_⟩
  have := hp.node
  have h1 := this.hac
  have h2 := this.ham
  simp only [maxLen] at h2
  omega
 refine zar zac 36 [.tmp 4] Tryd.func66 rfl rfl (by kernel_rfl) rfl _ (leB rfl) (TTIn.upS _) (fun _ => Up.true) ?_
 refine zaf zac [] _ _ _ ?_
 refine ⟨⟨Nat × Int, fun x => x.1 <= args.length /\ zee most (args.drop x.1) x.2 = zee most args (IntKind.i64.wrap (1 + ls.length)),
  fun x => { s := [(1, .one (.v (.int .i64 most))), (2, .one (.p 0 0)), (5, .one (.v (.int .i64 x.2))), (6, .one (.v (.int .i64 (x.1 : Int))))], m := [(0, .cells 41 ((TT.mk kind n name la lc ls aa ac args).cells.map SA.v))], k := 1, f := [fun w => TTIn w (.mk kind n name la lc ls aa ac args)] },
  fun x => args.length - x.1, ⟨(0, IntKind.i64.wrap (1 + ls.length)), ⟨Nat.zero_le _, rfl⟩, ?_⟩, ?_⟩⟩
 ·refine zaa [(0, .blk 0)] rfl rfl rfl rfl (Nat.zero_le _) ?_ ?_ ?_
  ·exact ⟨⟨_, rfl, rfl⟩, ⟨_, rfl, rfl⟩, ⟨_, rfl, rfl⟩, ⟨_, rfl, rfl⟩, trivial⟩
  ·exact ⟨⟨_, rfl, rfl⟩, trivial⟩
  ·exact ⟨⟨TTIn.upS _, fun w h => h.1⟩, trivial⟩
 rintro ⟨j, acc⟩ ⟨hj, hA⟩
 simp only at hj hA
 have fin : (args.length <= j \/ most < acc) -> zee most args (IntKind.i64.wrap (1 + ls.length)) = acc := by
  intro h
  rw [<- hA]
  cases hd : args.drop j with
  | nil => unfold zee; rfl
  | cons t r =>
   unfold zee
   rcases h with h | h
   ·rw [List.drop_eq_nil_of_le h] at hd
    cases hd
   ·rw [if_neg (by omega)]
 refine zad (fun hlt => ?_) (fun hge => ?_)
 ·have hlt : j < args.length := by
   have h : decide ((j : Int) < (args.length : Int)) = true := hlt
   have := of_decide_eq_true h
   omega
  refine zad (fun hle => ?_) (fun hgt => ?_)
  ·have hle : acc <= most := by
    have h : decide (acc <= most) = true := hle
    exact of_decide_eq_true h
   obtain ⟨u, hu⟩ : ∃ u, args[j]? = some u := ⟨_, List.getElem?_eq_getElem hlt⟩
   have hmem := List.mem_of_getElem? hu
   have hrec := ih _ (zd5 hmem) u rfl
   refine ⟨{ n := j }, ⟨rfl, hlt, fun w h => ?_⟩, ?_⟩
   ·obtain ⟨⟨a, ha, _⟩, _⟩ := h.1.arg hu
    rw [ha]
    rfl
   refine ⟨{ cs := u.cells }, ⟨u.cells_one, u.cells_len, fun w h => ?_⟩, ?_⟩
   ·obtain ⟨⟨a, ha, hc⟩, _⟩ := h.1.arg hu
    exact ⟨_, by rw [ha]; rfl, hc⟩
   refine zae hrec (fun e => by show [Value.agg (reals e (u.cells.map SA.v)).toArray, _] = _; rw [zbd]; rfl) (fun w h => (h.1.arg hu).2) ?_
   rintro r rfl
   refine ⟨(j + 1, IntKind.i64.wrap (acc + zdu most u)), ⟨hlt, ?_⟩, by simp only; omega, ?_⟩
   ·simp only
    rw [<- hA, List.drop_eq_getElem_cons hlt, (List.getElem?_eq_some_iff.1 hu).2]
    conv => rhs; unfold zee
    rw [if_pos hle]
   ·refine zaa [(0, .blk 0)] rfl rfl rfl rfl (Nat.zero_le _) ?_ ?_ ?_
    ·exact ⟨⟨_, rfl, rfl⟩, ⟨_, rfl, rfl⟩, ⟨_, rfl, rfl⟩, ⟨_, rfl, oneI (za9 (by omega) (by omega))⟩, trivial⟩
    ·exact ⟨⟨_, rfl, rfl⟩, trivial⟩
    ·exact ⟨⟨TTIn.upS _, fun w h => h.2.1⟩, trivial⟩
  ·have hgt : most < acc := by
    have h : decide (acc <= most) = false := hgt
    have := of_decide_eq_false h
    omega
   refine ⟨_, rfl, Told.val ?_⟩
   unfold zdu
   rw [fin (.inr hgt)]
   exact zs1 hm0 hm1 acc
 ·have hge : args.length <= j := by
   have h : decide ((j : Int) < (args.length : Int)) = false := hge
   have := of_decide_eq_false h
   omega
  refine ⟨_, rfl, Told.val ?_⟩
  unfold zdu
  rw [fin (.inl hge)]
  exact zs1 hm0 hm1 acc
theorem zuv (t : TT) : PCall Tryd.prog 27 [t.val] (fun w => TTIn w t) (fun r => r = .bool (decide (3600 < zdu 3600 t))) (fun _ _ => True) := by
 have hrec := zpk 3600 (by omega) (by omega) t
 obtain ⟨kind, n, name, la, lc, ls, aa, ac, args⟩ := t
 refine zar zac 6 [.tmp 2] Tryd.func27 rfl rfl (by kernel_rfl) rfl _ (leB rfl) (TTIn.upS _) (fun _ => Up.true) ?_
 refine zaf zac [] _ _ _ ?_
 refine zae hrec (fun _ => rfl) (fun w h => h.1) ?_
 rintro r rfl
 exact ⟨_, rfl, Told.val rfl⟩
end Go.Proofs.YtmkpiekbpakigaaDoor
end
section
set_option linter.unusedVariables false
set_option linter.unusedSimpArgs false
namespace Go.Proofs.YtmkpiekbpakigaaDoor
open Go.RowKit Go.Proofs.Base Go.Proofs.Sym
def zbh (l : Lv) : List Value := [.int .i64 l.b, .int .i64 l.p0, .int .i64 l.p1, .int .i64 l.p2, .int .i64 l.p3]
theorem zca (l : Lv) : ∀ v ∈ zbh l, v.oneCell' = true := by
 intro v hv
 simp only [zbh, List.mem_cons, List.not_mem_nil, or_false] at hv
 rcases hv with rfl | rfl | rfl | rfl | rfl <;> rfl
theorem zck {w : World} {A : Option Addr} {ls : List Lv} (h : zcz w A ls) {k : Nat} {l : Lv} (hk : ls[k]? = some l) : ∃ a, A = some a /\ ∀ j u, (zbh l)[j]? = some u -> w.cell? ((a.add (k * 5)).add j) = some u := by
 have hkl := (List.getElem?_eq_some_iff.1 hk).1
 obtain ⟨b, off, rfl, hc⟩ := h.2 (by omega)
 refine ⟨_, rfl, fun j u hj => ?_⟩
 obtain ⟨h0, h1, h2, h3, h4⟩ := hc k l hk
 rw [zbl, zbl]
 match j, hj with
 | 0, hj => cases hj; exact h0
 | 1, hj => cases hj; exact h1
 | 2, hj => cases hj; exact h2
 | 3, hj => cases hj; exact h3
 | 4, hj => cases hj; exact h4
 | j + 5, hj => simp [zbh] at hj
section
variable (l : Lv) (A B : Option Addr) (bs : List Lv) (xs : List Int)
end
end Go.Proofs.YtmkpiekbpakigaaDoor
end
section
set_option linter.unusedVariables false
set_option linter.unusedSimpArgs false
namespace Go.Proofs.YtmkpiekbpakigaaDoor
open Go.RowKit Go.Proofs.Base Go.Proofs.Mono
def pick (k : Nat) (xs : List (List UInt8)) : List (List UInt8) := xs.filter fun x => x[1]? == some (UInt8.ofNat (48 + k))
end Go.Proofs.YtmkpiekbpakigaaDoor
end
section
set_option linter.unusedVariables false
set_option linter.unusedSimpArgs false
namespace Go.Proofs.YtmkpiekbpakigaaDoor
open Go.RowKit Go.Proofs.Base Go.Proofs.Sym
mutual
def zj2 : TT -> TT -> Bool
 | .mk k n s _ _ ls _ _ us, .mk k' n' s' _ _ ls' _ _ us' => decide (k = k') && (decide (n = n') && (decide (s = s') && (decide (ls = ls') && zde us us')))
def zde : List TT -> List TT -> Bool
 | [], [] => true
 | a :: r, b :: r' => zj2 a b && zde r r'
 | _, _ => false
end
theorem zkf : ∀ {us bs : List TT}, us.length ≠ bs.length -> zde us bs = false
 | [], [], h => absurd rfl h
 | [], _ :: _, _ => by unfold zde; rfl
 | _ :: _, [], _ => by unfold zde; rfl
 | a :: r, b :: r', h => by
  unfold zde
  rw [zkf (fun e => h (by simp [e])), Bool.and_false]
theorem zaaq (a b : Lv) : (decide (a.b = b.b) && (decide (a.p0 = b.p0) && (decide (a.p1 = b.p1) && (decide (a.p2 = b.p2) && (decide (a.p3 = b.p3) && true))))) = decide (a = b) := by
 obtain ⟨a0, a1, a2, a3, a4⟩ := a
 obtain ⟨b0, b1, b2, b3, b4⟩ := b
 rw [Bool.eq_iff_iff]
 simp
def zc0 (a b : TT) (w : World) : Prop := TTIn w a /\ TTIn w b
theorem zc0.up (a b : TT) : Up (zc0 a b) := (TTIn.upS a).and (TTIn.upS b)
section
variable (k n : Int) (s : ByteArray) (la : Option Addr) (lc : Nat) (ls : List Lv) (aa : Option Addr) (ac : Nat) (us : List TT) (k' n' : Int) (s' : ByteArray) (la' : Option Addr) (lc' : Nat) (ls' : List Lv) (aa' : Option Addr) (ac' : Nat) (us' : List TT)
def zaam : List (Nat × LB) := [(0, .cells 41 ((TT.mk k n s la lc ls aa ac us).cells.map SA.v)), (1, .cells 41 ((TT.mk k' n' s' la' lc' ls' aa' ac' us').cells.map SA.v))]
set_option maxHeartbeats 4000000 in
theorem zsr (ih : ∀ a b, a ∈ us -> PCall Tryd.prog 33 [a.val, b.val] (zc0 a b) (fun r => r = .bool (zj2 a b)) (fun _ _ => True)) (hla : us.length <= 9223372036854775807) (hll : ls.length <= 9223372036854775807) :
  PCall Tryd.prog 33 [(TT.mk k n s la lc ls aa ac us).val, (TT.mk k' n' s' la' lc' ls' aa' ac' us').val] (zc0 (TT.mk k n s la lc ls aa ac us) (TT.mk k' n' s' la' lc' ls' aa' ac' us'))
   (fun r => r = .bool (zj2 (TT.mk k n s la lc ls aa ac us) (TT.mk k' n' s' la' lc' ls' aa' ac' us'))) (fun _ _ => True) := by
 have hspec : zj2 (TT.mk k n s la lc ls aa ac us) (TT.mk k' n' s' la' lc' ls' aa' ac' us') = (decide (k = k') && (decide (n = n') && (decide (s = s') && (decide (ls = ls') && zde us us')))) := by rw [zj2]
 rw [hspec]
 refine zar zac 81 [.tmp 4] Tryd.func33 rfl rfl (by kernel_rfl) rfl _ (leB rfl) (zc0.up _ _) (fun _ => Up.true) ?_
 refine zaf zac [] _ _ _ ?_
 refine zad (fun h => ?_) (fun h => ?_)
 ·have h : (!decide (k = k')) = true := h
  exact ⟨_, rfl, Told.val (by simp at h; simp [h])⟩
 have h1 : (!decide (k = k')) = false := h
 refine zad (fun h => ?_) (fun h => ?_)
 ·have h : (!decide (n = n')) = true := h
  exact ⟨_, rfl, Told.val (by simp at h; simp [h])⟩
 have h2 : (!decide (n = n')) = false := h
 refine zad (fun h => ?_) (fun h => ?_)
 ·have h : (!decide (s = s')) = true := h
  exact ⟨_, rfl, Told.val (by simp at h; simp [h])⟩
 have h3 : (!decide (s = s')) = false := h
 refine zad (fun h => ?_) (fun h => ?_)
 ·have h : (!decide ((ls.length : Int) = (ls'.length : Int))) = true := h
  have h : ls.length ≠ ls'.length := by simp at h; omega
  refine ⟨_, rfl, Told.val ?_⟩
  have : ls ≠ ls' := fun e => h (by rw [e])
  simp [this]
 have h4 : ls.length = ls'.length := by
  have h : (!decide ((ls.length : Int) = (ls'.length : Int))) = false := h
  simp at h
  omega
 refine zad (fun h => ?_) (fun h => ?_)
 ·have h : (!decide ((us.length : Int) = (us'.length : Int))) = true := h
  have h : us.length ≠ us'.length := by simp at h; omega
  exact ⟨_, rfl, Told.val (by rw [zkf h]; simp)⟩
 have h5 : us.length = us'.length := by
  have h : (!decide ((us.length : Int) = (us'.length : Int))) = false := h
  simp at h
  omega
 simp only [Bool.not_eq_false', decide_eq_true_eq] at h1 h2 h3
 refine ⟨⟨Nat, fun j => j <= ls.length /\ ls.take j = ls'.take j,
  fun j => { s := [(2, .one (.p 0 0)), (3, .one (.p 1 0)), (5, .one (.v (.int .i64 (j : Int))))], m := zaam k n s la lc ls aa ac us k' n' s' la' lc' ls' aa' ac' us', k := 2, f := [zc0 (TT.mk k n s la lc ls aa ac us) (TT.mk k' n' s' la' lc' ls' aa' ac' us')] },
  fun j => ls.length - j, ⟨0, ⟨Nat.zero_le _, rfl⟩, ?_⟩, ?_⟩⟩
 ·refine zaa [(0, .blk 0), (1, .blk 1)] rfl rfl rfl rfl (Nat.zero_le _) ?_ ?_ ?_
  ·exact ⟨⟨_, rfl, rfl⟩, ⟨_, rfl, rfl⟩, ⟨_, rfl, rfl⟩, trivial⟩
  ·exact ⟨⟨_, rfl, rfl⟩, ⟨_, rfl, rfl⟩, trivial⟩
  ·exact ⟨⟨zc0.up _ _, fun w h => h.1⟩, trivial⟩
 rintro j ⟨hj, hpre⟩
 refine zad (fun hlt => ?_) (fun hge => ?_)
 ·have hlt : j < ls.length := by
   have h : decide ((j : Int) < (ls.length : Int)) = true := hlt
   have := of_decide_eq_true h
   omega
  obtain ⟨x, hx⟩ : ∃ x, ls[j]? = some x := ⟨_, List.getElem?_eq_getElem hlt⟩
  obtain ⟨y, hy⟩ : ∃ y, ls'[j]? = some y := ⟨_, List.getElem?_eq_getElem (by omega)⟩
  refine .inl ⟨11, [0, 1, 0, 7, 15, 0, 32, 0, 224, 480, 1023], fun vs i => match i with
   | 3 => { c := { n := j } }
   | 4 => { c := { cs := zbh x } }
   | 8 => { c := { n := j } }
   | 9 => { c := { cs := zbh y } }
   | _ => {}, by kernel_rfl, rfl, by kernel_rfl, by kernel_rfl, by kernel_rfl, by decide, fun vals => ?_⟩
  refine ⟨fun _ => ⟨rfl, hlt, fun w h => ?_⟩, ?_⟩
  ·obtain ⟨a, ha, _⟩ := zck h.1.1.node.hls hx
   rw [ha]; rfl
  refine ⟨fun _ => ⟨zca x, rfl, fun w h => ?_⟩, ?_⟩
  ·obtain ⟨a, ha, hc⟩ := zck h.1.1.node.hls hx
   exact ⟨_, by rw [ha]; rfl, hc⟩
  refine ⟨fun _ => ⟨rfl, by show j < ls'.length; omega, fun w h => ?_⟩, ?_⟩
  ·obtain ⟨a, ha, _⟩ := zck h.1.2.node.hls hy
   rw [ha]; rfl
  refine ⟨fun _ => ⟨zca y, rfl, fun w h => ?_⟩, ?_⟩
  ·obtain ⟨a, ha, hc⟩ := zck h.1.2.node.hls hy
   exact ⟨_, by rw [ha]; rfl, hc⟩
  intro _
  refine zad (fun h => ?_) (fun h => ?_)
  ·have h : (!(decide (x.b = y.b) && (decide (x.p0 = y.p0) && (decide (x.p1 = y.p1) && (decide (x.p2 = y.p2) && (decide (x.p3 = y.p3) && true)))))) = true := h
   rw [zaaq] at h
   have hne : ls ≠ ls' := fun e => by
    rw [e, hy] at hx
    cases hx
    simp at h
   exact ⟨_, rfl, Told.val (by simp [hne])⟩
  ·have h : (!(decide (x.b = y.b) && (decide (x.p0 = y.p0) && (decide (x.p1 = y.p1) && (decide (x.p2 = y.p2) && (decide (x.p3 = y.p3) && true)))))) = false := h
   rw [zaaq] at h
   simp only [Bool.not_eq_false', decide_eq_true_eq] at h
   refine ⟨j + 1, ⟨hlt, by rw [List.take_add_one, List.take_add_one, hpre, hx, hy, h]⟩, by simp only; omega, ?_⟩
   refine zaa [(0, .blk 0), (1, .blk 1)] rfl rfl rfl rfl (Nat.zero_le _) ?_ ?_ ?_
   ·exact ⟨⟨_, rfl, rfl⟩, ⟨_, rfl, rfl⟩, ⟨_, rfl, oneI (za9 (by omega) (by omega))⟩, trivial⟩
   ·exact ⟨⟨_, rfl, rfl⟩, ⟨_, rfl, rfl⟩, trivial⟩
   ·exact ⟨⟨zc0.up _ _, fun w h => h.1⟩, trivial⟩
 have hlev : ls = ls' := by
  have hge : ls.length <= j := by
   have h : decide ((j : Int) < (ls.length : Int)) = false := hge
   have := of_decide_eq_false h
   omega
  rw [List.take_of_length_le hge, List.take_of_length_le (by omega)] at hpre
  exact hpre
 refine ⟨⟨Nat, fun j => j <= us.length /\ zde (us.drop j) (us'.drop j) = zde us us',
  fun j => { s := [(2, .one (.p 0 0)), (3, .one (.p 1 0)), (6, .one (.v (.int .i64 (j : Int))))], m := zaam k n s la lc ls aa ac us k' n' s' la' lc' ls' aa' ac' us', k := 2, f := [zc0 (TT.mk k n s la lc ls aa ac us) (TT.mk k' n' s' la' lc' ls' aa' ac' us')] },
  fun j => us.length - j, ⟨0, ⟨Nat.zero_le _, rfl⟩, ?_⟩, ?_⟩⟩
 ·refine zaa [(0, .blk 0), (1, .blk 1)] rfl rfl rfl rfl (Nat.zero_le _) ?_ ?_ ?_
  ·exact ⟨⟨_, rfl, rfl⟩, ⟨_, rfl, rfl⟩, ⟨_, rfl, rfl⟩, trivial⟩
  ·exact ⟨⟨_, rfl, rfl⟩, ⟨_, rfl, rfl⟩, trivial⟩
  ·exact ⟨⟨zc0.up _ _, fun w h => h.1⟩, trivial⟩
 rintro q ⟨hq, hsame⟩
 refine zad (fun hlt => ?_) (fun hge => ?_)
 ·have hlt : q < us.length := by
   have h : decide ((q : Int) < (us.length : Int)) = true := hlt
   have := of_decide_eq_true h
   omega
  obtain ⟨x, hx⟩ : ∃ x, us[q]? = some x := ⟨_, List.getElem?_eq_getElem hlt⟩
  obtain ⟨y, hy⟩ : ∃ y, us'[q]? = some y := ⟨_, List.getElem?_eq_getElem (by omega)⟩
  have hrec := ih x y (List.mem_of_getElem? hx)
  have hstep : zde us us' = (zj2 x y && zde (us.drop (q + 1)) (us'.drop (q + 1))) := by
   rw [<- hsame, List.drop_eq_getElem_cons hlt, List.drop_eq_getElem_cons (by omega : q < us'.length), (List.getElem?_eq_some_iff.1 hx).2, (List.getElem?_eq_some_iff.1 hy).2]
   conv => lhs; unfold zde
  obtain ⟨xk, xn, xs, xla, xlc, xls, xaa, xac, xas⟩ := x
  obtain ⟨yk, yn, ys, yla, ylc, yls, yaa, yac, yas⟩ := y
  obtain ⟨r, hr⟩ : ∃ r, zj2 (.mk xk xn xs xla xlc xls xaa xac xas) (.mk yk yn ys yla ylc yls yaa yac yas) = r := ⟨_, rfl⟩
  rw [hr] at hrec hstep
  refine .inl ⟨12, [0, 1, 0, 7, 15, 0, 32, 0, 224, 480, 1023, 2047], fun vs i => match i with
   | 3 => { c := { n := q } }
   | 4 => { c := { cs := (TT.mk xk xn xs xla xlc xls xaa xac xas).cells } }
   | 8 => { c := { n := q } }
   | 9 => { c := { cs := (TT.mk yk yn ys yla ylc yls yaa yac yas).cells } }
   | 10 => { pre := zc0 (.mk xk xn xs xla xlc xls xaa xac xas) (.mk yk yn ys yla ylc yls yaa yac yas), R := fun u => u = .bool r, nf := fun _ => .bool r }
   | _ => {}, by kernel_rfl, rfl, by kernel_rfl, by kernel_rfl, by kernel_rfl, by decide, fun vals => ?_⟩
  refine ⟨fun _ => ⟨rfl, hlt, fun w h => ?_⟩, ?_⟩
  ·obtain ⟨⟨a, ha, _⟩, _⟩ := h.1.1.arg hx
   rw [ha]; rfl
  refine ⟨fun _ => ⟨TT.cells_one (.mk xk xn xs xla xlc xls xaa xac xas), rfl, fun w h => ?_⟩, ?_⟩
  ·obtain ⟨⟨a, ha, hc⟩, _⟩ := h.1.1.arg hx
   exact ⟨_, by rw [ha]; rfl, hc⟩
  refine ⟨fun _ => ⟨rfl, by show q < us'.length; omega, fun w h => ?_⟩, ?_⟩
  ·obtain ⟨⟨a, ha, _⟩, _⟩ := h.1.2.arg hy
   rw [ha]; rfl
  refine ⟨fun _ => ⟨TT.cells_one (.mk yk yn ys yla ylc yls yaa yac yas), rfl, fun w h => ?_⟩, ?_⟩
  ·obtain ⟨⟨a, ha, hc⟩, _⟩ := h.1.2.arg hy
   exact ⟨_, by rw [ha]; rfl, hc⟩
  refine ⟨fun _ => ⟨hrec, fun w h => ⟨(h.1.1.arg hx).2, (h.1.2.arg hy).2⟩, fun _ h => h⟩, ?_⟩
  intro _
  cases r with
  | false => exact ⟨_, rfl, Told.val (by rw [hstep]; simp)⟩
  | true =>
   rw [Bool.true_and] at hstep
   refine ⟨q + 1, ⟨hlt, hstep.symm⟩, by simp only; omega, ?_⟩
   refine zaa [(0, .blk 0), (1, .blk 1)] rfl rfl rfl rfl (Nat.zero_le _) ?_ ?_ ?_
   ·exact ⟨⟨_, rfl, rfl⟩, ⟨_, rfl, rfl⟩, ⟨_, rfl, oneI (za9 (by omega) (by omega))⟩, trivial⟩
   ·exact ⟨⟨_, rfl, rfl⟩, ⟨_, rfl, rfl⟩, trivial⟩
   ·exact ⟨⟨zc0.up _ _, fun w h => h.2.1⟩, trivial⟩
 ·have hge : us.length <= q := by
   have h : decide ((q : Int) < (us.length : Int)) = false := hge
   have := of_decide_eq_false h
   omega
  have hend : zde us us' = true := by
   rw [<- hsame, List.drop_eq_nil_of_le hge, List.drop_eq_nil_of_le (by omega)]
   unfold zde
   rfl
  exact ⟨_, rfl, Told.val (by rw [hend]; simp [h1, h2, h3, hlev])⟩
end
theorem zud (a b : TT) : PCall Tryd.prog 33 [a.val, b.val] (zc0 a b) (fun r => r = .bool (zj2 a b)) (fun _ _ => True) := by
 induction hsz : SizeOf.sizeOf a using Nat.strongRecOn generalizing a b with
 | _ z ih =>
 obtain ⟨k, n, s, la, lc, ls, aa, ac, us⟩ := a
 obtain ⟨k', n', s', la', lc', ls', aa', ac', us'⟩ := b
 subst hsz
 by_cases hla : us.length <= 9223372036854775807
 rotate_left
 ·refine ⟨zhz Tryd.func33 (by kernel_rfl) (by kernel_rfl), fun _ => Up.true, fun w H hH hp => ?_⟩
  have := hp.1.node
  have h1 := this.hac
  have h2 := this.ham
  simp only [maxLen] at h2
  omega
 by_cases hll : ls.length <= 9223372036854775807
 rotate_left
 ·refine ⟨zhz Tryd.func33 (by kernel_rfl) (by kernel_rfl), fun _ => Up.true, fun w H hH hp => ?_⟩
  have := hp.1.node
  have h1 := this.hlc
  have h2 := this.hlm
  simp only [maxLen] at h2
  omega
 exact zsr k n s la lc ls aa ac us k' n' s' la' lc' ls' aa' ac' us' (fun a b ha => ih _ (zd5 ha) a b rfl) hla hll
end Go.Proofs.YtmkpiekbpakigaaDoor
end
