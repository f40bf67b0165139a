/- Symbolic operations: what each operation does to a symbolic state, and that the model's operation does just that. -/
import Derived.Test.YtmkpiekbpakigaaDoorSymA
set_option linter.unusedVariables false
set_option linter.unusedSimpArgs false
namespace Go.Proofs.Sym
open Go.RowKit Go.Proofs.Base Go.Proofs.Mono

/-! ### Types -/
structure TyI where
  size : Nat
  bytes : Nat
  agg : Bool
  zero : List Value
def TyI.val (i : TyI) : Value := match i.agg with
  | true => .agg i.zero.toArray
  | false => i.zero.headD undef
structure Tab where
  ty : List (Nat × TyI)
  u : List (Nat × TypeDesc)
  fld : List (Nat × List (Nat × Nat))
  eqs : List (Nat × Nat)
def isAggD : TypeDesc → Bool
  | .struct _ => true
  | .array _ _ => true
  | _ => false
def isIfcD : TypeDesc → Bool
  | .interface _ => true
  | _ => false
/-- Structs that are equal just if their cells, all integers, are. -/
def eqInts : List Value → List Value → Option Bool
  | [], [] => some true
  | .int .i64 a :: xs, .int .i64 b :: ys => match eqInts xs ys with
    | some r => some (decide (a = b) && r)
    | none => none
  | _, _ => none
structure Tab.Ok (P : Program) (T : Tab) : Prop where
  mixed : P.follows .mixedOrders = true
  ty : ∀ p ∈ T.ty, (P.info? p.1).map (fun f => (f.size, f.bytes, f.zero)) = some (p.2.size, p.2.bytes, some p.2.val) ∧ (P.underlying p.1).map isAggD = some p.2.agg ∧ p.2.zero.length = p.2.size ∧ (p.2.agg = false → p.2.size = 1) ∧ (∀ v ∈ p.2.zero, v.oneCell' = true)
  u : ∀ p ∈ T.u, P.underlying p.1 = some p.2
  fld : ∀ p ∈ T.fld, ∃ gs, P.underlying p.1 = some (.struct gs) ∧ gs.toList.map (fun f => (f.offset, f.type)) = p.2
  eqs : ∀ p ∈ T.eqs, ∀ (xs ys : List Value) (r : Bool) (w : World) (x y : Operand), xs.length = p.2 → eqInts xs ys = some r →
    (do eqGuard .eql p.1 x y (.agg xs.toArray) (.agg ys.toArray); binOp .eql p.1 (.agg xs.toArray) (.agg ys.toArray) : Sem Value).run P w = .ok (.bool r) w ∧
    (do eqGuard .neq p.1 x y (.agg xs.toArray) (.agg ys.toArray); binOp .neq p.1 (.agg xs.toArray) (.agg ys.toArray) : Sem Value).run P w = .ok (.bool !r) w
theorem get_mem {α : Type _} {i : Nat} {x : α} : ∀ {l : List (Nat × α)}, get i l = some x → (i, x) ∈ l
  | [], h => by cases h
  | (j, y) :: r, h => by
    rcases get_cons h with ⟨rfl, rfl⟩ | ⟨_, h⟩
    · exact List.mem_cons_self
    · exact List.mem_cons_of_mem _ (get_mem h)

section
variable {P : Program} {T : Tab} (hT : T.Ok P)
include hT
theorem Tab.Ok.size {t : Nat} {i : TyI} (h : get t T.ty = some i) (w : World) : (sizeOf t).run P w = .ok i.size w := by
  have := (hT.ty _ (get_mem h)).1
  cases hi : P.info? t with
  | none => rw [hi] at this; simp at this
  | some f =>
    rw [hi] at this
    simp only [Option.map_some, Option.some.injEq, Prod.mk.injEq] at this
    simp [sizeOf, typeInfo, hi, this.1]
theorem Tab.Ok.zero {t : Nat} {i : TyI} (h : get t T.ty = some i) (w : World) : (zeroValue t).run P w = .ok i.val w := by
  have := (hT.ty _ (get_mem h)).1
  cases hi : P.info? t with
  | none => rw [hi] at this; simp at this
  | some f =>
    rw [hi] at this
    simp only [Option.map_some, Option.some.injEq, Prod.mk.injEq] at this
    simp [zeroValue, typeInfo, hi, this.2.2]
theorem Tab.Ok.info {t : Nat} {i : TyI} (h : get t T.ty = some i) : ∃ f, P.info? t = some f ∧ f.size = i.size ∧ f.bytes = i.bytes ∧ f.zero = some i.val := by
  have := (hT.ty _ (get_mem h)).1
  cases hi : P.info? t with
  | none => rw [hi] at this; simp at this
  | some f =>
    rw [hi] at this
    simp only [Option.map_some, Option.some.injEq, Prod.mk.injEq] at this
    exact ⟨f, rfl, this⟩
theorem Tab.Ok.isAgg {t : Nat} {i : TyI} (h : get t T.ty = some i) (w : World) : (isAgg t).run P w = .ok i.agg w := by
  have := (hT.ty _ (get_mem h)).2.1
  cases hi : P.underlying t with
  | none => rw [hi] at this; simp at this
  | some d =>
    rw [hi] at this
    simp only [Option.map_some, Option.some.injEq] at this
    rw [← this]
    simp only [Go.isAgg, Sem.run_bind, run_underlying hi, Result.andThen_ok]
    cases d <;> rfl
theorem Tab.Ok.cells {t : Nat} {i : TyI} (h : get t T.ty = some i) : i.val.cells = i.zero.toArray := by
  obtain ⟨_, _, h3, h4, h5⟩ := hT.ty _ (get_mem h)
  unfold TyI.val
  cases ha : i.agg with
  | true => rfl
  | false =>
    have hl := h3.trans (h4 ha)
    match hz : i.zero, hl with
    | [z], _ =>
      have h1 := h5 z (by simp [hz])
      cases z <;> simp_all [Value.cells, Value.oneCell']
end

/-! ### Operands -/
def ev (s : List (Nat × SV)) : Operand → Option SV
  | .tmp t => get t s
  | .const v => some (.one (.v v))
  | .global g => some (.one (.v (.pointer (some ⟨g, 0, none⟩))))
  | .func f => some (.one (.fn f [] []))
section
variable {cx : Cx} {e : Env} {st : St} {a : Act} {w : World}
theorem Sat.ev (h : Sat cx e st a w) {x : Operand} {v : SV} (hv : ev st.s x = some v) : v.lt st.k ∧ a.eval x = v.real e := by
  cases x with
  | tmp t =>
    obtain ⟨h1, h2⟩ := h.slots t v hv
    exact ⟨h1, by simp [Act.eval, Array.getD_eq_getD_getElem?, h2]⟩
  | const u => cases hv; exact ⟨trivial, rfl⟩
  | global g => cases hv; exact ⟨trivial, rfl⟩
  | func f => cases hv; exact ⟨⟨by simp, by simp⟩, rfl⟩
end
/-- The cells of a struct or an array. -/
def aggOf : SV → Option (List SA)
  | .agg xs => some xs
  | .one (.v (.agg cs)) => match cs.toList.all Value.oneCell' with
    | true => some (cs.toList.map SA.v)
    | false => none
  | _ => none
def cellsOf (v : SV) : Option (List SA) := match v with
  | .one (.v (.agg cs)) => match cs.toList.all Value.oneCell' with
    | true => some (cs.toList.map SA.v)
    | false => none
  | .one (.v (.tuple _)) => none
  | .one x => some [x]
  | .agg xs => some xs
  | .tup _ => none
theorem map_plain (e : Env) (cs : List Value) : reals e (cs.map SA.v) = cs := by
  simp only [reals, List.map_map]
  exact (List.map_congr_left (fun x _ => rfl)).trans (List.map_id _)
theorem aggOf_ok {v : SV} {xs : List SA} (h : aggOf v = some xs) (e : Env) {k : Nat} (hl : v.lt k) : v.real e = .agg (reals e xs).toArray ∧ ∀ x ∈ xs, x.lt k := by
  match v, h with
  | .agg ys, h => cases h; exact ⟨rfl, hl⟩
  | .one (.v (.agg cs)), h =>
    simp only [aggOf] at h
    split at h
    · rename_i hone
      cases h
      refine ⟨by rw [map_plain]; rfl, fun x hx => ?_⟩
      obtain ⟨u, hu, rfl⟩ := List.mem_map.1 hx
      exact List.all_eq_true.1 hone u hu
    · cases h
theorem cellsOf_ok {v : SV} {xs : List SA} (h : cellsOf v = some xs) (e : Env) {k : Nat} (hl : v.lt k) : (v.real e).cells = (reals e xs).toArray ∧ ∀ x ∈ xs, x.lt k := by
  match v, h with
  | .agg ys, h => cases h; exact ⟨rfl, hl⟩
  | .one (.v y), h =>
    cases y with
    | agg cs =>
      simp only [cellsOf] at h
      split at h
      · rename_i hone
        cases h
        refine ⟨by rw [map_plain]; rfl, fun x hx => ?_⟩
        obtain ⟨u, hu, rfl⟩ := List.mem_map.1 hx
        exact List.all_eq_true.1 hone u hu
      · cases h
    | tuple ts => simp [cellsOf] at h
    | _ =>
      simp only [cellsOf, Option.some.injEq] at h
      subst h
      exact ⟨rfl, fun x hx => by rw [List.mem_singleton.1 hx]; rfl⟩
  | .one (.p i o), h =>
    simp only [cellsOf, Option.some.injEq] at h; subst h
    exact ⟨rfl, fun x hx => by rw [List.mem_singleton.1 hx]; exact hl⟩
  | .one (.sl i o n c), h =>
    simp only [cellsOf, Option.some.injEq] at h; subst h
    exact ⟨rfl, fun x hx => by rw [List.mem_singleton.1 hx]; exact hl⟩
  | .one (.row i), h =>
    simp only [cellsOf, Option.some.injEq] at h; subst h
    exact ⟨rfl, fun x hx => by rw [List.mem_singleton.1 hx]; exact hl⟩
  | .one (.q i o), h =>
    simp only [cellsOf, Option.some.injEq] at h; subst h
    exact ⟨rfl, fun x hx => by rw [List.mem_singleton.1 hx]; exact hl⟩
  | .one (.fn f fs cs), h =>
    simp only [cellsOf, Option.some.injEq] at h; subst h
    exact ⟨rfl, fun x hx => by rw [List.mem_singleton.1 hx]; exact hl⟩
theorem one_real (e : Env) {k : Nat} : ∀ {x : SA}, x.lt k → (x.real e).oneCell' = true
  | .v _, h => h
  | .p _ _, _ => rfl
  | .sl _ _ _ _, _ => rfl
  | .row _, _ => rfl
  | .q _ _, _ => rfl
  | .fn _ _ _, _ => rfl
def plainOf : List SA → Option (List Value)
  | [] => some []
  | .v x :: r => match plainOf r with
    | some xs => some (x :: xs)
    | none => none
  | _ :: _ => none
theorem plainOf_ok (e : Env) : ∀ {xs : List SA} {vs : List Value}, plainOf xs = some vs → reals e xs = vs
  | [], vs, h => by cases h; rfl
  | .v x :: r, vs, h => by
    simp only [plainOf] at h
    split at h
    · rename_i xs hx
      cases h
      simp [reals, SA.real, ← plainOf_ok e hx]
    · cases h

/-! ### What an operation does -/
/-- What a walk tells of an operation. -/
structure Ch where
  n : Nat := 0
  v : Value := undef
  cs : List Value := []
  b : ByteArray := ⟨#[]⟩
inductive Sig where
  | bad
  | det (v : SV)
  | new (v : SV) (t : TypeId) (cs : List SA)
  | pick (ob : Ch → Prop) (v : Ch → SV)
  | set (i : Nat) (t : TypeId) (cs : List SA)
  | ask (R : Value → Prop) (F : Value → World → Prop)
  | grow (ob : Ch → Prop) (old : Option Nat) (E z : Nat) (n : Ch → Nat) (xs : Ch → List Value)
  | call (f : FuncId) (args : List SV)
  | pan (v : Value)

structure GrowOk (P : Program) (e : Env) (m : List (Nat × LB)) (w w' : World) (v : Option Addr × Nat × Nat) (old : Option Nat) (E z n : Nat) (xs : List Value) : Prop where
  g : w.grownBy w' (oldBlk e m old)
  own : w'.ownsRow 0 E z (.slice v.1 v.2.1 v.2.2) n xs
  new : ∀ g, (Value.slice v.1 v.2.1 v.2.2).ownBlock = some g → w.heap.size ≤ g ∨ oldBlk e m old = some g
structure SetOk (e : Env) (w w' : World) (i : Nat) (t : TypeId) (cs : List SA) : Prop where
  blk : Blk w' (e.blk i) t (reals e cs).toArray
  far : ∀ g, g ≠ e.blk i → w'.heap[g]? = w.heap[g]?
  os : w'.os = w.os
  tape : w'.tape = w.tape
  out : w'.output = w.output
  size : w'.heap.size = w.heap.size

/-- That an operation does what its sign tells. -/
def SigOk (P : Program) (e : Env) (st : St) (o : Oper) (a : Act) (w : World) : Sig → Prop
  | .bad => True
  | .det v => v.lt st.k ∧ (execOp a.eval o).run P w = .ok (.value (v.real e)) w
  | .new v t cs => v.lt (st.k + 1) ∧ (∀ c ∈ cs, c.lt st.k) ∧ (execOp a.eval o).run P w = .ok (.value (v.real (e.setBlk st.k w.heap.size))) (w.alloc (.cells (reals e cs).toArray t))
  | .pick ob v => ∀ c, ob c → (v c).lt st.k ∧ (execOp a.eval o).run P w = .ok (.value ((v c).real e)) w
  | .set i t cs => (∃ cs0, get i st.m = some (.cells t cs0)) ∧ (∀ c ∈ cs, c.lt st.k) ∧ ∃ w', (execOp a.eval o).run P w = .ok .skip w' ∧ SetOk e w w' i t cs
  | .ask R F => ∀ H : Nat → Prop, (∀ g, H g → g < w.heap.size) → ∃ u w', (execOp a.eval o).run P w = .ok (.value u) w' ∧ Later w w' ∧ R u ∧ (∀ u, Up (F u)) ∧ F u (hide H w')
  | .grow ob old E z n xs => (∀ i, old = some i → i < st.k) ∧ ∀ c, ob c → ∃ v w', (execOp a.eval o).run P w = .ok (.value (.slice v.1 v.2.1 v.2.2)) w' ∧ GrowOk P e st.m w w' v old E z (n c) (xs c)
  | .call f args => (∀ x ∈ args, x.lt st.k) ∧ ((∃ fn, P.funcs[f]? = some fn ∧ (fn.name == "runtime.NumGoroutine") = false ∧ fn.body.isNone = false) → (execOp a.eval o).run P w = .ok (.enter f (args.map (SV.real e)).toArray) w)
  | .pan v => (execOp a.eval o).run P w = .halt (.panic v) w

def sigMove (st : St) (x : Operand) : Sig := match ev st.s x with
  | some v => .det v
  | none => .bad
def sigPick (st : St) (c x y : Operand) : Sig := match ev st.s c with
  | some (.one (.v (.bool true))) => sigMove st x
  | some (.one (.v (.bool false))) => sigMove st y
  | _ => .bad
def sigAlloc (T : Tab) (st : St) (t : TypeId) : Sig := match get t T.ty with
  | some i => .new (.one (.p st.k 0)) t (i.zero.map SA.v)
  | none => .bad
def sigBox (st : St) (t : TypeId) (x : Operand) : Sig := match ev st.s x with
  | some v => match cellsOf v with
    | some cs => .new (.one (.p st.k 0)) t cs
    | none => .bad
  | none => .bad
/-- A part of some cells. -/
def partOf (i : TyI) (cs : List SA) (o : Nat) : Option SV := match i.agg with
  | true => match Nat.ble (o + i.size) cs.length with
    | true => some (.agg ((cs.drop o).take i.size))
    | false => none
  | false => match cs[o]? with
    | some c => some (.one c)
    | none => none
def sigLoad (T : Tab) (st : St) (t : TypeId) (x : Operand) : Sig := match get t T.ty with
  | none => .bad
  | some i => match ev st.s x with
    | some (.one (.p j o)) => match get j st.m with
      | some (.cells _ cs) => match partOf i cs o with
        | some v => .det v
        | none => .bad
      | _ => .bad
    | some (.one (.q j o)) => match get j st.m with
      | some (.own _ _ n xs) => match i.agg with
        | true => .pick (fun c => 0 < n ∧ (∀ v ∈ c.cs, v.oneCell' = true) ∧ c.cs.length = i.size ∧ ∀ l u, c.cs[l]? = some u → xs[o + l]? = some u) (fun c => .agg (c.cs.map SA.v))
        | false => .pick (fun c => xs[o]? = some c.v) (fun c => .one (.v c.v))
      | _ => .bad
    | some (.one (.v y)) => match i.agg with
      | true => .pick (fun c => (∀ v ∈ c.cs, v.oneCell' = true) ∧ c.cs.length = i.size ∧ ∀ w, AllF st.f w → ∃ a, y = .pointer (some a) ∧ ∀ l u, c.cs[l]? = some u → w.cell? (a.add l) = some u) (fun c => .agg (c.cs.map SA.v))
      | false => .pick (fun c => ∀ w, AllF st.f w → ∃ a, y = .pointer (some a) ∧ w.cell? a = some c.v) (fun c => .one (.v c.v))
    | _ => .bad
def sigStore (T : Tab) (st : St) (t : TypeId) (x y : Operand) : Sig := match get t T.ty, ev st.s x, ev st.s y with
  | some ti, some (.one (.p i o)), some v => match get i st.m with
    | some (.cells t' cs) => match cellsOf v with
      | some vs => match Nat.beq vs.length ti.size, Nat.ble (o + vs.length) cs.length with
        | true, true => .set i t' (cs.take o ++ (vs ++ cs.drop (o + vs.length)))
        | _, _ => .bad
      | none => .bad
    | _ => .bad
  | _, _, _ => .bad
def sigFieldAddr (T : Tab) (st : St) (t : TypeId) (x : Operand) (j : Nat) : Sig := match get t T.fld with
  | none => .bad
  | some fs => match fs[j]? with
    | none => .bad
    | some (off, ft) => match get ft T.ty with
      | none => .bad
      | some ti => match ti.size, ev st.s x with
        | _ + 1, some (.one (.p i o)) => .det (.one (.p i (o + off)))
        | _ + 1, some (.one (.v (.pointer (some a)))) => .det (.one (.v (.pointer (some (a.add off)))))
        | _, _ => .bad
def sigField (T : Tab) (st : St) (t : TypeId) (x : Operand) (j : Nat) : Sig := match get t T.fld with
  | none => .bad
  | some fs => match fs[j]? with
    | none => .bad
    | some (off, ft) => match get ft T.ty, ev st.s x with
      | some ti, some v => match aggOf v with
        | some cs => match partOf ti cs off with
          | some u => .det u
          | none => .bad
        | none => .bad
      | _, _ => .bad
def sigIndexAddr (T : Tab) (st : St) (t : TypeId) (x ix : Operand) : Sig := match get t T.u with
  | some (.slice E) => match get E T.ty, ev st.s x, ev st.s ix with
    | some ti, some (.one (.v (.slice A n c))), some (.one (.v (.int k i))) => .pick (fun ch => i = (ch.n : Int) ∧ ch.n < n ∧ ∀ w, AllF st.f w → A.isSome = true) (fun ch => .one (.v (.pointer (A.map fun a => a.add (ch.n * ti.size)))))
    | some ti, some (.one (.sl j o n c)), some (.one (.v (.int k i))) => .pick (fun ch => i = (ch.n : Int) ∧ ch.n < n) (fun ch => .one (.p j (o + ch.n * ti.size)))
    | some ti, some (.one (.row j)), some (.one (.v (.int k i))) => match get j st.m with
      | some (.own E' z n xs) => .pick (fun ch => i = (ch.n : Int) ∧ ch.n < n ∧ z = ti.size) (fun ch => .one (.q j (ch.n * z)))
      | _ => .bad
    | _, _, _ => .bad
  | some (.array n E) => match get E T.ty, ev st.s x, ev st.s ix with
    | some ti, some (.one (.p j o)), some (.one (.v (.int k i))) => .pick (fun ch => i = (ch.n : Int) ∧ ch.n < n) (fun ch => .one (.p j (o + ch.n * ti.size)))
    | _, _, _ => .bad
  | _ => .bad
def sigIndex (T : Tab) (st : St) (t : TypeId) (x ix : Operand) : Sig := match get t T.u, ev st.s x, ev st.s ix with
  | some (.array n E), some v, some (.one (.v (.int k i))) => match get E T.ty, aggOf v with
    | some ti, some cs => .pick (fun ch => i = (ch.n : Int) ∧ ch.n < n ∧ (partOf ti cs (ch.n * ti.size)).isSome = true) (fun ch => (partOf ti cs (ch.n * ti.size)).getD (.one (.v undef)))
    | _, _ => .bad
  | some .string, some (.one (.v (.string s))), some (.one (.v (.int k i))) => .pick (fun ch => i = (ch.n : Int) ∧ ch.n < s.size) (fun ch => .one (.v (.int .u8 ((s.data.toList.getD ch.n 0).toNat : Int))))
  | _, _, _ => .bad
end Go.Proofs.Sym
