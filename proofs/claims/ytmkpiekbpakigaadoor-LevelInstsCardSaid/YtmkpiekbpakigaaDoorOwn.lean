/- What the arguments of layer 7's statements read as, and how a call that leaves them alone meets its row. -/
import Derived.Test.YtmkpiekbpakigaaDoorLv11
import Derived.Test.YtmkpiekbpakigaaDoorCards
import Derived.Test.YtmkpiekbpakigaaDoorTie
import Derived.WalkKit
import Derived.ProofKit
import Derived.OpenShut
import Derived.Carry
import Derived.Deep.DeepHandedRow
import Derived.Lib.LaidTab
import Derived.LaidSub
set_option linter.unusedVariables false
set_option linter.unusedSimpArgs false
namespace Go.Proofs.YtmkpiekbpakigaaDoor
open Go.ChangeShapes Go.WideShapes Go.ChangeAt Go.RowKit Go.Proofs.Base

theorem own : ownKnob Tryd.prog.godebug = none := by kernel_rfl
theorem laidOut : laidOutB Tryd.prog = true := by kernel_rfl

section
variable {H : Type} {enc : TypeId × Value → H} {w W W' : World} {base : Nat} {sp : Nat → Bool} {held : Bool}

/-- What a call leaves alone reads behind it as before. -/
theorem trodAll_below {P : Program} (hl : laidOutB P = true) (hb : Below W.heap.size W W') : ∀ {ts : List TypeId} {vs : List Value} {ds : List (DataW H)} {ps : List MemPlace},
    (∀ t ∈ ts, P.readableRec t = true ∧ t < P.types.size) → DataW.TrodAll enc P W 0 (fun _ => true) true ts vs ds ps → (∀ x ∈ ps, x.block < W.heap.size) →
    DataW.TrodAll enc P W' 0 (fun b => decide (b < W.heap.size)) true ts vs ds ps
  | [], [], [], _, _, h, _ => h
  | t :: ts, v :: vs, d :: ds, _, ht, ⟨p, q, h1, h2, e⟩, hlt =>
    have h0 := ht t (List.mem_cons.2 (Or.inl rfl))
    ⟨p, q, Below.trod hl h0.1 h0.2 h1 hb (fun x hx => hlt x (by rw [e]; exact List.mem_append_left _ hx)),
      trodAll_below hl hb (fun t ht' => ht t (List.mem_cons.2 (Or.inr ht'))) h2 (fun x hx => hlt x (by rw [e]; exact List.mem_append_right _ hx)), e⟩

theorem post_true {f : Func} {s : ChangeSpec} {args : Array Value} {ds gs : List (DataW H)} {before : List MemPlace} {b : Nat}
    (hW : DataW.Whole enc Tryd.prog f.params.toList s.vars false W args.toList ds gs before) (hv : s.vars = []) (hr : f.resultTypes = #[b]) (ht : Tryd.prog.underlying b = some .bool)
    (hp : ∀ t ∈ f.params.toList, Tryd.prog.readableRec t = true ∧ t < Tryd.prog.types.size)
    (hs : s.fn H (ds ++ gs) = { results := [.lit (.bool true)], args := ds }) (hb : Below W.heap.size W W') : s.post enc Tryd.prog f false true false false W args (.bool true) W' := by
  have hlt := fun x hx => hW.lt x hx
  have hW' := hW
  obtain ⟨p, q, hA, hV, rfl, hfz, hnd⟩ := hW
  rw [hv] at hV
  obtain ⟨rfl, rfl⟩ := trodVars_none hV
  refine ⟨ds, [], p ++ [], [], p, [], hW', ?_, ?_, ?_, hb.frame _, fun h => by cases h⟩
  · rw [hs, hr]
    exact trodAll_cons_mk (shut_bool ht true) trodAll_mk0
  · rw [hs]
    exact trodAll_below laidOut hb hp hA (fun x hx => hlt x (List.mem_append_left _ hx))
  · rw [hs, hv]
    exact rfl

def Lv.ok (l : Lv) : Prop := (Lit.int .i64 l.b).wf = true ∧ (Lit.int .i64 l.p0).wf = true ∧ (Lit.int .i64 l.p1).wf = true ∧ (Lit.int .i64 l.p2).wf = true ∧ (Lit.int .i64 l.p3).wf = true
def Lv.data (l : Lv) : DataW H := .agg [.lit (.int .i64 l.b), .agg [.lit (.int .i64 l.p0), .lit (.int .i64 l.p1), .lit (.int .i64 l.p2), .lit (.int .i64 l.p3)]]

theorem cells24 : Tryd.prog.cellsOf 24 = 5 := by kernel_rfl
theorem cells22 : Tryd.prog.cellsOf 22 = 4 := by kernel_rfl
theorem cells3 : Tryd.prog.cellsOf 3 = 1 := by kernel_rfl

set_option maxRecDepth 100000 in
/-- Five cells that read as a value of type Level. -/
theorem level_cells {fuel : Nat} {cs : List Value} {x : DataW H × List MemPlace} (h : DataW.trod enc Tryd.prog w base sp held fuel 24 cs = some x) :
    ∃ l : Lv, cs = l.cells ∧ x = (l.data, []) ∧ l.ok := by
  obtain ⟨ys, m, _, hx, hl, hlen, hf⟩ := DataW.trod_struct Tryd.underlying24 h
  match ys, hlen with
  | [y0, y1], _ =>
    have h0 := hf 0 _ rfl
    have h1 := hf 1 _ rfl
    rw [cells24] at hl
    match cs, hl with
    | [c0, c1, c2, c3, c4], _ =>
      simp [cells3, cells22] at h0 h1
      obtain ⟨b, e, rfl, sb⟩ := DataW.trod_int Tryd.underlying3 h0
      obtain ⟨zs, m', _, hz, _, hzl, hg⟩ := DataW.trod_array Tryd.underlying22 h1
      match zs, hzl with
      | [z0, z1, z2, z3], _ =>
        have g0 := hg 0 (by omega)
        have g1 := hg 1 (by omega)
        have g2 := hg 2 (by omega)
        have g3 := hg 3 (by omega)
        simp [cells3] at g0 g1 g2 g3
        obtain ⟨p0, e0, rfl, s0⟩ := DataW.trod_int Tryd.underlying3 g0
        obtain ⟨p1, e1, rfl, s1⟩ := DataW.trod_int Tryd.underlying3 g1
        obtain ⟨p2, e2, rfl, s2⟩ := DataW.trod_int Tryd.underlying3 g2
        obtain ⟨p3, e3, rfl, s3⟩ := DataW.trod_int Tryd.underlying3 g3
        simp only [List.cons.injEq, and_true] at e e0 e1 e2 e3
        subst e e0 e1 e2 e3 hz hx
        exact ⟨⟨b, p0, p1, p2, p3⟩, rfl, by simp [Lv.data], sb, s0, s1, s2, s3⟩

set_option maxRecDepth 100000 in
theorem level_open {r : Reach} {b0 : Nat} {v : Value} {d : DataW H} {ps : List MemPlace} (hval : Value.okWide Tryd.prog w r b0 24 v) (h : DataW.Trod enc Tryd.prog w base sp held 24 v d ps) :
    ∃ l : Lv, v = .agg #[.int .i64 l.b, .int .i64 l.p0, .int .i64 l.p1, .int .i64 l.p2, .int .i64 l.p3] ∧ d = l.data ∧ ps = [] ∧ l.ok := by
  obtain ⟨cs, rfl, hsz⟩ := okWide_struct Tryd.underlying24 hval
  obtain ⟨fuel, hf⟩ := h
  obtain ⟨l, hc, hx, ho⟩ := level_cells hf
  obtain ⟨cs⟩ := cs
  simp only [Value.cells] at hc
  simp only [Prod.mk.injEq] at hx
  exact ⟨l, by rw [show cs = l.cells from hc]; rfl, hx.1, hx.2, ho⟩

set_option maxRecDepth 100000 in
/-- A slice of integers, opened. -/
theorem ints_open {r : Reach} {b0 : Nat} {v : Value} {d : DataW H} {ps : List MemPlace} (hval : Value.okWide Tryd.prog w r b0 25 v) (h : DataW.Trod enc Tryd.prog w base (fun _ => true) held 25 v d ps) :
    ∃ (A : Option Addr) (len cap : Nat) (xs : List Int), v = .slice A len cap ∧ IntRow w A xs ∧ len = xs.length ∧ len ≤ cap ∧ cap ≤ 9223372036854775807 := by
  obtain ⟨A, len, cap, rfl⟩ := okWide_slice Tryd.underlying25 hval
  obtain ⟨fuel, hf⟩ := h
  rcases open_ints Tryd.underlying25 Tryd.underlying3 cells3 hf with ⟨hcs, -⟩ | ⟨a, len', cap', zs, hcs, _, hl, hm, hz, -, hcell, -⟩
  · simp [Value.cells] at hcs
    obtain ⟨rfl, rfl, rfl⟩ := hcs
    exact ⟨none, 0, 0, [], rfl, ⟨by simp, fun h => by simp at h⟩, rfl, Nat.le_refl _, by decide⟩
  · simp [Value.cells] at hcs
    obtain ⟨rfl, rfl, rfl⟩ := hcs
    have hm' : cap ≤ 9223372036854775807 := Nat.le_trans hm (by decide)
    simp only [if_true] at hz
    refine ⟨some a, len, cap, zs.take len, rfl, ⟨by simp; omega, fun hp => ?_⟩, by simp; omega, hl, hm'⟩
    obtain ⟨b, off, rfl, hc⟩ := ints_at hcell (by simp at hp; omega)
    refine ⟨b, off, rfl, fun j x hj => ?_⟩
    have hjl : j < len := by
      have := (List.getElem?_eq_some_iff.1 hj).1
      simp at this
      omega
    rw [List.getElem?_take_of_lt hjl] at hj
    rw [hc j (by omega)]
    simp [List.getD, hj]
end

set_option maxRecDepth 100000 in
theorem tab_of {l : List (String × DataW Unit)} {W : World} (hl : (l.filter fun x => x.1 == "internal/strconv.uint64pow10") = [("internal/strconv.uint64pow10", Rows.laid_internal_strconv_uint64pow10)]) (hh : laidMetH Tryd.prog l W = laidMet Tryd.prog l W) (h : laidMetH Tryd.prog l W) : Tab W := by
  rw [hh] at h
  have h2 := h.filter fun x => x.1 == "internal/strconv.uint64pow10"
  rw [hl] at h2
  exact Lib.tabIs_of_head (g := 0) (t := 199) (rest := []) (by kernel_rfl) (by kernel_rfl) Tryd.underlying199 Tryd.underlying181 (by kernel_rfl) (by kernel_rfl) h2

/-- A table laid. -/
def setTab (cs : Array Value) : Obj → Obj
  | .cells _ t frozen => .cells cs t frozen
  | o => o
/-- A world for the witnesses: the settled one, the three tables holding what their initialisers lay. -/
noncomputable def laidHeap (h : Array Obj) : Array Obj :=
  ((h.modify 0 (setTab #[.int .u64 1, .int .u64 10, .int .u64 100, .int .u64 1000, .int .u64 10000, .int .u64 100000, .int .u64 1000000, .int .u64 10000000, .int .u64 100000000, .int .u64 1000000000, .int .u64 10000000000, .int .u64 100000000000, .int .u64 1000000000000, .int .u64 10000000000000, .int .u64 100000000000000, .int .u64 1000000000000000, .int .u64 10000000000000000, .int .u64 100000000000000000, .int .u64 1000000000000000000, .int .u64 10000000000000000000])).modify 4 (setTab #[.int .u8 0, .int .u8 1, .int .u8 28, .int .u8 2, .int .u8 29, .int .u8 14, .int .u8 24, .int .u8 3, .int .u8 30, .int .u8 22, .int .u8 20, .int .u8 15, .int .u8 25, .int .u8 17, .int .u8 4, .int .u8 8, .int .u8 31, .int .u8 27, .int .u8 13, .int .u8 23, .int .u8 21, .int .u8 19, .int .u8 16, .int .u8 7, .int .u8 26, .int .u8 12, .int .u8 18, .int .u8 6, .int .u8 11, .int .u8 5, .int .u8 10, .int .u8 9])).modify 5 (setTab #[.int .u8 0, .int .u8 1, .int .u8 56, .int .u8 2, .int .u8 57, .int .u8 49, .int .u8 28, .int .u8 3, .int .u8 61, .int .u8 58, .int .u8 42, .int .u8 50, .int .u8 38, .int .u8 29, .int .u8 17, .int .u8 4, .int .u8 62, .int .u8 47, .int .u8 59, .int .u8 36, .int .u8 45, .int .u8 43, .int .u8 51, .int .u8 22, .int .u8 53, .int .u8 39, .int .u8 33, .int .u8 30, .int .u8 24, .int .u8 18, .int .u8 12, .int .u8 5, .int .u8 63, .int .u8 55, .int .u8 48, .int .u8 27, .int .u8 60, .int .u8 41, .int .u8 37, .int .u8 16, .int .u8 46, .int .u8 35, .int .u8 44, .int .u8 21, .int .u8 52, .int .u8 32, .int .u8 23, .int .u8 11, .int .u8 54, .int .u8 26, .int .u8 40, .int .u8 15, .int .u8 34, .int .u8 20, .int .u8 31, .int .u8 10, .int .u8 25, .int .u8 14, .int .u8 19, .int .u8 9, .int .u8 13, .int .u8 8, .int .u8 7, .int .u8 6])
noncomputable def laidWorld (os : Os) : World :=
  { World.holding Tryd.prog os ⟨#[], #[], []⟩ with heap := laidHeap (World.holding Tryd.prog os ⟨#[], #[], []⟩).heap }

theorem tys_ok : ∀ t ∈ [24, 25, 32], Tryd.prog.readableRec t = true ∧ t < Tryd.prog.types.size := by
  have h : ([24, 25, 32].all fun t => Tryd.prog.readableRec t && decide (t < Tryd.prog.types.size)) = true := by kernel_rfl
  intro t ht
  have := List.all_eq_true.1 h t ht
  simpa using this
theorem stand_in (t : TypeId) (h : t ∈ [24, 25, 32]) : Tryd.prog.wantsStandIn t = false := by
  have h2 : ([24, 25, 32].all fun t => !Tryd.prog.wantsStandIn t) = true := by kernel_rfl
  have := List.all_eq_true.1 h2 t h
  simpa using this
end Go.Proofs.YtmkpiekbpakigaaDoor
