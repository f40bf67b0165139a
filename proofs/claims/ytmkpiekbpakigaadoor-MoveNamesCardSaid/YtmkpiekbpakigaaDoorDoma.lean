/- What the claim needs of Base, Lv, Mono, Lv3, Lv2, Lv5, in one text. -/
import Derived.WalkKit
import Derived.WalkSpells
import Derived.WalkLawsBesides
import Derived.Laws.StructEq
import Derived.RowKit3
import Derived.Handy
import Derived.Lib.Hide
import Derived.Deep.QuietTactic
import Derived.BigQuiet
import Derived.Deep.RegionHeld3
import Derived.Deep.DeepMust
import Derived.Deep.DeepFit
import Derived.Test.YtmkpiekbpakigaaDoorRows
theorem Go.Proofs.leB {a b : Nat} (h : Nat.ble a b = true) : a <= b := Nat.le_of_ble_eq_true h
section
namespace Go.Proofs.Base
open Go.RowKit
def Blk (w : World) (g : Nat) (t : TypeId) (cs : Array Value) : Prop := w.heap[g]? = some (.cells cs t (0, 0))
section
variable {w w' : World} {g : Nat} {t : TypeId} {cs : Array Value}
theorem Blk.lt (h : Blk w g t cs) : g < w.heap.size := by
 unfold Blk at h
 exact (Array.getElem?_eq_some_iff.1 h).1
theorem Blk.cell (h : Blk w g t cs) (i : Nat) : w.cell? ⟨g, i, none⟩ = cs[i]? := cell_of_row w g i cs t (0, 0) h
theorem Blk.frozen (h : Blk w g t cs) (i : Nat) : w.frozen? ⟨g, i, none⟩ = false := by
 unfold Blk at h
 simp [World.frozen?, h]
theorem Blk.new (w : World) (t : TypeId) (cs : Array Value) : Blk (w.alloc (.cells cs t)) w.heap.size t cs := by
 show (w.heap.push _)[w.heap.size]? = _
 simp
theorem Blk.alloc (h : Blk w g t cs) (o : Obj) : Blk (w.alloc o) g t cs := (Below.heap_alloc w o g h.lt).trans h
theorem Blk.set_ (h : Blk w g t cs) (i : Nat) (u : Value) : Blk (w.setCell ⟨g, i, none⟩ u) g t (cs.setIfInBounds i u) := by
 unfold Blk at *
 simp [World.setCell, Array.getElem?_modify, h]
theorem Blk.far (h : Blk w g t cs) {p : Addr} (hp : g ≠ p.block) (u : Value) : Blk (w.setCell p u) g t cs := (Below.heap_setCell w p u g hp).trans h
theorem Blk.below {B : Nat} (h : Blk w g t cs) (hb : Below B w w') (hg : g < B) : Blk w' g t cs := (hb.block g hg).trans h
theorem Blk.bel (h : Blk w g t cs) (hb : Below w.heap.size w w') : Blk w' g t cs := h.below hb h.lt
end
theorem Blk.grown {w w' : World} {g : Nat} {t : TypeId} {cs : Array Value} {row : Option Nat} (h : Blk w g t cs) (hb : w.grownBy w' row) (hg : some g ≠ row) : Blk w' g t cs := (hb.block g h.lt hg).trans h
theorem zabe {w : World} {g : Nat} {t : TypeId} {c0 c1 c2 c3 c4 : Value} (h : Blk w g t #[c0, c1, c2, c3, c4]) : ∀ j u, [c0, c1, c2, c3, c4][j]? = some u -> w.cell? ((⟨g, 0, none⟩ : Addr).add j) = some u := by
 intro j u hj
 have e : (⟨g, 0, none⟩ : Addr).add j = ⟨g, j, none⟩ := by unfold Addr.add; split <;> simp_all
 rw [e, h.cell j]
 simpa using hj
theorem one5 (a b c d e : Int) : ∀ u ∈ [Value.int .i64 a, .int .i64 b, .int .i64 c, .int .i64 d, .int .i64 e], u.oneCell' = true := by
 intro u hu
 simp only [List.mem_cons, List.not_mem_nil, or_false] at hu
 rcases hu with rfl | rfl | rfl | rfl | rfl <;> rfl
theorem zd4 {w w1 : World} {base : Nat} {e : TypeId} {size n : Nat} {v : Value} {xs : List Value} (h : w.ownsRow base e size v n xs) (hm : ∀ k, v.ownBlock = some k -> w1.heap[k]? = w.heap[k]?) : w1.ownsRow base e size v n xs := by
 obtain ⟨h1, h2⟩ := h
 refine ⟨h1, ?_⟩
 rcases h2 with h2 | ⟨g, cap, cur, rfl, hg, hh, r⟩
 ·exact .inl h2
 ·exact .inr ⟨g, cap, cur, rfl, hg, (hm g (by simp [Value.ownBlock])).trans hh, r⟩
theorem zjs {w w1 : World} {base : Nat} {e : TypeId} {size n : Nat} {v : Value} {xs : List Value} (h : w.ownsRow base e size v n xs) (hb : Below w.heap.size w w1) : w1.ownsRow base e size v n xs :=
 zd4 h (fun k hk => hb.block k (h.lt k hk).2)
theorem zjj {w : World} {base : Nat} {e : TypeId} {size n : Nat} {v : Value} {xs : List Value} (h : w.ownsRow base e size v n xs) {p : Addr} (u : Value) (hp : ∀ k, v.ownBlock = some k -> k ≠ p.block) : (w.setCell p u).ownsRow base e size v n xs :=
 zd4 h (fun k hk => Below.heap_setCell w p u k (hp k hk))
theorem zabv {W w1 : World} (hb : Below W.heap.size W w1) : (∀ b o, b < W.heap.size -> w1.cell? ⟨b, o, none⟩ = W.cell? ⟨b, o, none⟩) /\ (∀ b o, b < W.heap.size -> w1.frozen? ⟨b, o, none⟩ = W.frozen? ⟨b, o, none⟩) :=
 ⟨fun b o h => hb.cell (p := ⟨b, o, none⟩) h, fun b o h => hb.frozen (p := ⟨b, o, none⟩) h⟩
theorem zfn {B : Nat} {a b c : World} (h : Below B a b) (k : Below b.heap.size b c) (hB : B <= b.heap.size) : Below B a c := h.trans (k.mono hB)
section
variable {w : World} {g : Nat} {t : TypeId} {c0 c1 c2 c3 c4 : Value}
theorem Blk.cells5 (h : Blk w g t #[c0, c1, c2, c3, c4]) : w.cell? ⟨g, 0, none⟩ = some c0 /\ w.cell? ⟨g, 1, none⟩ = some c1 /\ w.cell? ⟨g, 2, none⟩ = some c2 /\ w.cell? ⟨g, 3, none⟩ = some c3 /\ w.cell? ⟨g, 4, none⟩ = some c4 /\ ∀ i, w.frozen? ⟨g, i, none⟩ = false :=
 ⟨h.cell 0, h.cell 1, h.cell 2, h.cell 3, h.cell 4, h.frozen⟩
end
end Go.Proofs.Base
end
section
namespace Go.Proofs.YtmkpiekbpakigaaDoor
open Go.RowKit Go.Proofs.Base
structure Lv where
 b : Int
 p0 : Int
 p1 : Int
 p2 : Int
 p3 : Int
 deriving DecidableEq
def Lv.val (l : Lv) : Value := .agg #[.int .i64 l.b, .int .i64 l.p0, .int .i64 l.p1, .int .i64 l.p2, .int .i64 l.p3]
theorem ix (w : World) (p0 p1 p2 p3 : Int) :
 (Instr.index 22 (.agg #[.int .i64 p0, .int .i64 p1, .int .i64 p2, .int .i64 p3]) (.int .i64 0)).run Tryd.prog w = .ok (.int .i64 p0) w /\
 (Instr.index 22 (.agg #[.int .i64 p0, .int .i64 p1, .int .i64 p2, .int .i64 p3]) (.int .i64 1)).run Tryd.prog w = .ok (.int .i64 p1) w /\
 (Instr.index 22 (.agg #[.int .i64 p0, .int .i64 p1, .int .i64 p2, .int .i64 p3]) (.int .i64 2)).run Tryd.prog w = .ok (.int .i64 p2) w /\
 (Instr.index 22 (.agg #[.int .i64 p0, .int .i64 p1, .int .i64 p2, .int .i64 p3]) (.int .i64 3)).run Tryd.prog w = .ok (.int .i64 p3) w := ⟨by kernel_rfl, by kernel_rfl, by kernel_rfl, by kernel_rfl⟩
def Lv.right (l : Lv) : Bool := decide ((-1 <= l.p0 /\ l.p0 <= l.b) /\ (-1 <= l.p1 /\ l.p1 <= l.b) /\ (-1 <= l.p2 /\ l.p2 <= l.b) /\ (-1 <= l.p3 /\ l.p3 <= l.b) /\ 0 <= l.b /\ l.b <= 100)
set_option maxHeartbeats 1000000 in
theorem zcn (b p0 p1 p2 p3 : Int) (w : World) :
  Calls Tryd.prog 16 #[.agg #[.int .i64 b, .int .i64 p0, .int .i64 p1, .int .i64 p2, .int .i64 p3]] w fun e w' => e = .returned (.bool (Lv.right ⟨b, p0, p1, p2, p3⟩)) /\ Below w.heap.size w w' := by
 have i0 := fun w => (ix w p0 p1 p2 p3).1
 have i1 := fun w => (ix w p0 p1 p2 p3).2.1
 have i2 := fun w => (ix w p0 p1 p2 p3).2.2.1
 have i3 := fun w => (ix w p0 p1 p2 p3).2.2.2
 go_enter Tryd.func16, Tryd.ntmps16
 go_wp2
 go_rounds 5
 all_goals go_ret
 all_goals refine ⟨congrArg (fun b => Ending.returned (.bool b)) ?_, by go_grown⟩
 all_goals unfold Lv.right
 all_goals (rw [Bool.eq_iff_iff]; simp only [decide_eq_true_eq, Bool.false_eq_true, false_iff]; omega)
theorem zkw (n : Int) (w : World) :
  Calls Tryd.prog 48 #[.int .i64 n] w fun e w' => e = .returned (.agg #[.int .i64 n, .int .i64 (-1), .int .i64 (-1), .int .i64 (-1), .int .i64 (-1)]) /\ Below w.heap.size w w' := by
 go_enter Tryd.func48, Tryd.ntmps48
 go_wp2
 go_returns
 exact ⟨rfl, by go_grown⟩
def Lv.width (l : Lv) : Int := if l.p3 > -1 then 4 else if l.p2 > -1 then 3 else if l.p1 > -1 then 2 else if l.p0 > -1 then 1 else 0
set_option maxHeartbeats 1000000 in
theorem zi8 (b p0 p1 p2 p3 : Int) (w : World) :
  Calls Tryd.prog 51 #[.agg #[.int .i64 b, .int .i64 p0, .int .i64 p1, .int .i64 p2, .int .i64 p3]] w fun e w' => e = .returned (.int .i64 (Lv.width ⟨b, p0, p1, p2, p3⟩)) /\ Below w.heap.size w w' := by
 have i0 := fun w => (ix w p0 p1 p2 p3).1
 have i1 := fun w => (ix w p0 p1 p2 p3).2.1
 have i2 := fun w => (ix w p0 p1 p2 p3).2.2.1
 have i3 := fun w => (ix w p0 p1 p2 p3).2.2.2
 go_enter Tryd.func51, Tryd.ntmps51
 go_wp2
 go_rounds 5
 all_goals go_ret
 all_goals refine ⟨congrArg (fun b => Ending.returned (.int .i64 b)) ?_, by go_grown⟩
 all_goals (simp only [Lv.width]; repeat' split) <;> omega
end Go.Proofs.YtmkpiekbpakigaaDoor
end
section
namespace Go.Proofs.Mono
open Go.RowKit Go.Proofs.Base
def zob (P : Program) (R : Value -> World -> Prop) : Result Next -> Prop
 | .ok (.value u) w' => R u w'
 | .ok .skip w' => R undef w'
 | .ok (.enter f args) w' => Calls P f args w' (fun e w'' => ∃ v, e = .returned v /\ R v w'')
 | .ok (.row row args) w' => Rows P row args w' R
 | _ => False
def za2 (P : Program) (o : Oper) (a : Act) (w : World) (R : Value -> World -> Prop) : Prop := zob P R ((execOp a.eval o).run P w)
theorem zev {P : Program} {o : Oper} {a : Act} {w : World} {R : Value -> World -> Prop} {K : Act -> World -> Prop} {Q : Exit -> Act -> World -> Prop}
  (h : za2 P o a w R) (hK : ∀ v w', R v w' -> K (a.put o.dst v) w') : o.wp P a w K Q := by
 unfold za2 at h
 unfold Oper.wp
 generalize (execOp a.eval o).run P w = r at *
 cases r with
 | ok n w' =>
  cases n <;> simp only [zob] at h <;> simp only [Oper.upon]
  case value u => exact hK _ _ h
  case skip => exact hK _ _ h
  case enter f args => exact h.mono fun e w'' ⟨v, he, hv⟩ => by subst he; exact hK _ _ hv
  case row row args => exact h.mono fun v w'' hv => hK _ _ hv
 | halt x w' => simp only [zob] at h
def zao (ops : Array Oper) (a : Act) (vals : Nat -> Value) : Nat -> Act
 | 0 => a
 | k + 1 => (zao ops a vals k).put ((ops[k]?).bind (·.dst)) (vals k)
theorem zdy (ops : Array Oper) (a : Act) (vals : Nat -> Value) (k : Nat) : zao ops a vals (k + 1) = (zao ops a vals k).put ((ops[k]?).bind (·.dst)) (vals k) := rfl
def bef (ops : Array Oper) (k j : Nat) : Bool := ((Region.before ops).getD k 0).testBit j
def zfa (ops : Array Oper) : Bool :=
 (List.range ops.size).all (fun k => match ops[k]? with
  | none => false
  | some o => o.after.all (fun e => !Region.binds .any e || decide (e.on < k)) &&
   (List.range ops.size).all (fun j => !bef ops k j || (decide (j < k) && o.after.any (fun e => Region.binds .any e && (e.on == j || bef ops e.on j)))) &&
   (o.looksAt ops).all (fun t => (List.range ops.size).all fun j => j == k || ((ops[j]?).bind (·.dst)) != some t || bef ops k j || bef ops j k) &&
   (List.range ops.size).all (fun j => j == k || ((ops[j]?).bind (·.dst)) != o.dst || o.dst == none)) &&
 Region.noSelect ops
def zbk (ops : Array Oper) (j : Nat) : Option Tmp := (ops[j]?).bind (·.dst)
section
variable {ops : Array Oper}
structure zfg (ops : Array Oper) : Prop where
 back : ∀ {k o}, ops[k]? = some o -> ∀ e ∈ o.after, Region.binds .any e = true -> e.on < k
 close : ∀ {k o j}, ops[k]? = some o -> j < ops.size -> bef ops k j = true -> j < k /\ ∃ e ∈ o.after, Region.binds .any e = true /\ (e.on = j \/ bef ops e.on j = true)
 looks : ∀ {k o t j}, ops[k]? = some o -> t ∈ o.looksAt ops -> j < ops.size -> j ≠ k -> zbk ops j = some t -> bef ops k j = true \/ bef ops j k = true
 uniq : ∀ {k j t}, k < ops.size -> j < ops.size -> zbk ops j = some t -> zbk ops k = some t -> j = k
 sel : Region.noSelect ops = true
theorem zfw (h : zfa ops = true) : zfg ops := by
 unfold zfa at h
 rw [Bool.and_eq_true] at h
 obtain ⟨h, hsel⟩ := h
 have row : ∀ {k o}, ops[k]? = some o -> _ := fun {k o} hk => by
  have hlt : k < ops.size := (Array.getElem?_eq_some_iff.1 hk).1
  have := List.all_eq_true.1 h k (List.mem_range.2 hlt)
  rw [hk] at this
  simp only [Bool.and_eq_true] at this
  exact this
 refine ⟨fun {k o} hk e he hbd => ?_, fun {k o j} hk hj hb => ?_, fun {k o t j} hk ht hj hne hd => ?_, fun {k j t} hk hj h1 h2 => ?_, hsel⟩
 ·have h1 := (row hk).1.1.1
  have := Array.all_eq_true_iff_forall_mem.1 h1 e he
  simpa [hbd] using this
 ·have h1 := List.all_eq_true.1 (row hk).1.1.2 j (List.mem_range.2 hj)
  rw [hb] at h1
  simp only [Bool.not_true, Bool.false_or, Bool.and_eq_true, decide_eq_true_eq] at h1
  obtain ⟨h1, h2⟩ := h1
  rw [Array.any_eq_true'] at h2
  obtain ⟨e, he, h2⟩ := h2
  exact ⟨h1, e, he, by simpa using h2⟩
 ·have h1 := List.all_eq_true.1 (List.all_eq_true.1 (row hk).1.2 t ht) j (List.mem_range.2 hj)
  unfold zbk at hd
  simp only [hd, Bool.or_eq_true, beq_iff_eq, bne_iff_ne, ne_eq, not_true_eq_false, or_false] at h1
  rcases h1 with (h1 | h1) | h1
  ·exact absurd h1 hne
  ·exact .inl h1
  ·exact .inr h1
 ·have hk' : ops[k]? = some ops[k] := Array.getElem?_eq_getElem hk
  have h3 := List.all_eq_true.1 (row hk').2 j (List.mem_range.2 hj)
  unfold zbk at h1 h2
  rw [hk'] at h2
  simp only [Option.bind_some] at h2
  simp only [h1, h2, Bool.or_eq_true, beq_iff_eq, bne_iff_ne, ne_eq, not_true_eq_false, reduceCtorEq, or_false] at h3
  exact h3
theorem za0 (a : Act) (d : Option Tmp) (v : Value) (t : Tmp) : (a.put d v).tmps[t]? = if d = some t then (if t < a.tmps.size then some v else none) else a.tmps[t]? := by
 cases d with
 | none => simp [Act.put]
 | some d =>
  simp only [Act.put, Option.some.injEq]
  by_cases h : d = t
  ·subst h
   rw [if_pos rfl, Array.getElem?_setIfInBounds_self]
  ·rw [if_neg h, Array.getElem?_setIfInBounds_ne h]
theorem zc1 (a : Act) (d : Option Tmp) (v : Value) : (a.put d v).tmps.size = a.tmps.size := by cases d <;> simp [Act.put]
theorem zbu (a : Act) (d : Option Tmp) (v : Value) : (a.put d v).defers = a.defers := by cases d <;> rfl
theorem zco (a : Act) (vals : Nat -> Value) (k : Nat) : (zao ops a vals k).tmps.size = a.tmps.size /\ (zao ops a vals k).defers = a.defers := by
 induction k with
 | zero => exact ⟨rfl, rfl⟩
 | succ k ih => exact ⟨(zc1 _ _ _).trans ih.1, (zbu _ _ _).trans ih.2⟩
theorem zct (T : zfg ops) (a : Act) (vals : Nat -> Value) {j : Nat} {t : Tmp} (hd : zbk ops j = some t) (ht : t < a.tmps.size) : ∀ k, k <= ops.size -> j < k -> (zao ops a vals k).tmps[t]? = some (vals j) := by
 intro k
 induction k with
 | zero => intro _ h; omega
 | succ k ih =>
  intro hk hj
  unfold zao
  rw [za0]
  by_cases h : (ops[k]?).bind (·.dst) = some t
  ·have : j = k := T.uniq (by omega) (by omega) hd h
   subst this
   rw [if_pos h, if_pos (by rw [(zco a vals _).1]; exact ht)]
  ·rw [if_neg h]
   refine ih (by omega) ?_
   rcases Nat.lt_or_eq_of_le (Nat.le_of_lt_succ hj) with h1 | h1
   ·exact h1
   ·subst h1; exact absurd hd h
theorem zby (a : Act) (vals : Nat -> Value) {t : Tmp} : ∀ k, (∀ j, j < k -> zbk ops j ≠ some t) -> (zao ops a vals k).tmps[t]? = a.tmps[t]? := by
 intro k
 induction k with
 | zero => intro _; rfl
 | succ k ih =>
  intro h
  unfold zao
  rw [za0, if_neg (show ¬ (ops[k]?).bind (·.dst) = some t from h k (by omega))]
  exact ih (fun j hj => h j (by omega))
structure At (ops : Array Oper) (a0 : Act) (vals : Nat -> Value) (listed : Array Bool) (a : Act) : Prop where
 size : a.tmps.size = a0.tmps.size
 defers : a.defers = a0.defers
 on : ∀ {j t}, j < ops.size -> listed.getD j false = true -> zbk ops j = some t -> t < a0.tmps.size -> a.tmps[t]? = some (vals j)
 off : ∀ {t}, (∀ j, j < ops.size -> zbk ops j = some t -> listed.getD j false = false) -> a.tmps[t]? = a0.tmps[t]?
theorem zty {a b : Act} {t : Tmp} (h : a.tmps[t]? = b.tmps[t]?) : a.eval (.tmp t) = b.eval (.tmp t) := by
 simp only [Act.eval, Array.getD_eq_getD_getElem?, h]
theorem zhl (T : zfg ops) {a0 a : Act} {vals : Nat -> Value} {listed : Array Bool} {k : Nat} {o : Oper} (hk : ops[k]? = some o) (hA : At ops a0 vals listed a)
  (hun : listed.getD k false = false) (hb : ∀ j, j < ops.size -> bef ops k j = true -> listed.getD j false = true) (hc : ∀ j, j < ops.size -> bef ops j k = true -> listed.getD j false = false)
  {t : Tmp} (ht : t ∈ o.looksAt ops) : a.tmps[t]? = (zao ops a0 vals k).tmps[t]? := by
 have hlt : k < ops.size := (Array.getElem?_eq_some_iff.1 hk).1
 by_cases hex : ∃ j, j < ops.size /\ j ≠ k /\ zbk ops j = some t
 ·obtain ⟨j, hj, hne, hd⟩ := hex
  rcases T.looks hk ht hj hne hd with h1 | h1
  ·have hjk := (T.close hk hj h1).1
   by_cases hs : t < a0.tmps.size
   ·rw [hA.on hj (hb j hj h1) hd hs, zct T a0 vals hd hs k (by omega) hjk]
   ·rw [Array.getElem?_eq_none (show a.tmps.size <= t from Nat.le_of_not_lt (by rw [hA.size]; exact hs)), Array.getElem?_eq_none (show (zao ops a0 vals k).tmps.size <= t from Nat.le_of_not_lt (by rw [(zco a0 vals k).1]; exact hs))]
  ·have hoj : ops[j]? = some ops[j] := Array.getElem?_eq_getElem hj
   have hkj := (T.close hoj hlt h1).1
   rw [hA.off (fun i hi hdi => by rw [T.uniq hj hi hdi hd]; exact hc j hj h1), zby a0 vals k (fun i hi hdi => by have := T.uniq hj (by omega) hdi hd; omega)]
 ·have hno : ∀ j, j < ops.size -> j ≠ k -> zbk ops j ≠ some t := fun j hj hne hd => hex ⟨j, hj, hne, hd⟩
  rw [hA.off (fun i hi hdi => by
   by_cases hik : i = k
   ·rw [hik]; exact hun
   ·exact absurd hdi (hno i hi hik)), zby a0 vals k (fun i hi => hno i (by omega) (by omega))]
theorem zc7 (o : Oper) (hs : ∀ cs b, o.op ≠ .select cs b) {a b : Act} (h : ∀ t ∈ o.looksAt ops, a.tmps[t]? = b.tmps[t]?) : execOp a.eval o = execOp b.eval o :=
 execOp_congr o hs fun x hx => by
  cases x with
  | tmp t => exact zty (h t (List.mem_append_left _ (List.mem_filterMap.2 ⟨.tmp t, by simpa using hx, rfl⟩)))
  | _ => rfl
theorem zdr (o : Oper) {a b : Act} (h : ∀ t ∈ o.looksAt ops, a.tmps[t]? = b.tmps[t]?) : Region.wanted o (yielded ops a.tmps) = Region.wanted o (yielded ops b.tmps) := by
 unfold Region.wanted
 cases hg : o.guard with
 | none => rfl
 | some gw =>
  obtain ⟨g, want⟩ := gw
  have hy : yielded ops a.tmps g = yielded ops b.tmps g := by
   unfold yielded
   cases ht : (ops[g]?).bind (·.dst) with
   | none => rfl
   | some t => simp only [Option.bind_some]; rw [h t (by simp [Oper.looksAt, hg, ht])]
  simp only [hy]
section
variable {P : Program}
def zry (P : Program) (ops : Array Oper) (Ext : World -> World -> Prop) (S : Nat -> Value -> World -> Prop) (k : Nat) (a : Act) (w : World) : Prop :=
 match ops[k]? with
 | none => True
 | some o => if Region.wanted o (yielded ops a.tmps) = true then za2 P o a w (fun v w' => Ext w w' /\ S k v w') else S k undef w
theorem zp6 (T : zfg ops) {a0 a : Act} {vals : Nat -> Value} {listed : Array Bool} {i : Nat} (hi : i < ops.size) (hsz : listed.size = ops.size) (hun : listed.getD i false = false) (hA : At ops a0 vals listed a) (v : Value) :
  At ops a0 (fun j => if j = i then v else vals j) (listed.setIfInBounds i true) (a.put (zbk ops i) v) := by
 have hl : ∀ j d, (listed.setIfInBounds i true).getD j d = if j = i then true else listed.getD j d := by
  intro j d
  by_cases h : j = i
  ·subst h
   rw [if_pos rfl]
   simp [Array.getD_eq_getD_getElem?, hsz, hi]
  ·rw [if_neg h, getD_set_ne d (Ne.symm h)]
 refine ⟨(zc1 _ _ _).trans hA.size, (zbu _ _ _).trans hA.defers, fun {j t} hj hlj hd ht => ?_, fun {t} h => ?_⟩
 ·rw [za0]
  by_cases hji : j = i
  ·subst hji
   rw [if_pos hd, if_pos (by rw [hA.size]; exact ht), if_pos rfl]
  ·rw [if_neg (fun e => hji (T.uniq hi hj hd e)), if_neg hji]
   rw [hl, if_neg hji] at hlj
   exact hA.on hj hlj hd ht
 ·rw [za0]
  have h1 : zbk ops i ≠ some t := fun e => by
   have := h i hi e
   rw [hl, if_pos rfl] at this
   cases this
  rw [if_neg h1]
  refine hA.off (fun j hj hd => ?_)
  have := h j hj hd
  rw [hl, if_neg (fun e : j = i => h1 (e ▸ hd))] at this
  exact this
theorem zu5 (T : zfg ops) {a0 a : Act} {vals : Nat -> Value} {listed : Array Bool} {m : Nat} (hm : m <= ops.size) (hA : At ops a0 vals listed a) (hpre : ∀ j, j < ops.size -> listed.getD j false = true -> j < m) (hall : ∀ k, k < m -> listed.getD k false = true) : a = zao ops a0 vals m := by
 have htm : a.tmps = (zao ops a0 vals m).tmps := by
  apply Array.ext_getElem?
  intro t
  by_cases hex : ∃ j, j < m /\ zbk ops j = some t
  ·obtain ⟨j, hj, hd⟩ := hex
   by_cases hs : t < a0.tmps.size
   ·rw [hA.on (by omega) (hall j hj) hd hs, zct T a0 vals hd hs _ hm hj]
   ·rw [Array.getElem?_eq_none (show a.tmps.size <= t by rw [hA.size]; omega), Array.getElem?_eq_none (show (zao ops a0 vals m).tmps.size <= t by rw [(zco a0 vals _).1]; omega)]
  ·rw [hA.off (fun j hj hd => by
    cases hl : listed.getD j false with
    | false => rfl
    | true => exact absurd ⟨j, hpre j hj hl, hd⟩ hex), zby a0 vals _ (fun j hj hd => hex ⟨j, hj, hd⟩)]
 have hde := hA.defers.trans (zco (ops := ops) a0 vals m).2.symm
 cases a
 cases h : zao ops a0 vals m
 rw [h] at htm hde
 simp only at htm hde
 rw [htm, hde]
theorem zvr (T : zfg ops) {Ext : World -> World -> Prop} (hrf : ∀ a, Ext a a) (C : World -> Prop) (hC : ∀ {w w'}, Ext w w' -> C w -> C w') (S : Nat -> Value -> World -> Prop)
  (hS : ∀ {k v w w'}, Ext w w' -> S k v w -> S k v w') (a0 : Act) (Q : Exit -> Act -> World -> Prop) (m : Nat) (hm : m <= ops.size) (D : Nat -> Bool) (htail : ∀ k, m <= k -> k < ops.size -> ∀ j, j < k -> D j = false -> bef ops k j = true)
  (hstep : ∀ k vals w, k < m -> C w -> (∀ j, j < ops.size -> bef ops k j = true -> S j (vals j) w) -> zry P ops Ext S k (zao ops a0 vals k) w)
  (hend : ∀ (fuel : Nat) (listed : Array Bool) (vals : Nat -> Value) (a : Act) (w : World), listed.size = ops.size -> listed.toList.count false <= fuel -> (∀ j, j < ops.size -> listed.getD j false = true -> j < m) -> (∀ j, j < m -> D j = false -> listed.getD j false = true) ->
   (∀ k, k < ops.size -> listed.getD k false = true -> ∀ j, j < ops.size -> bef ops k j = true -> listed.getD j false = true) -> At ops a0 vals listed a -> C w -> (∀ j, j < ops.size -> listed.getD j false = true -> S j (vals j) w) -> wpAny P .any ops Q fuel listed a w) :
  ∀ (fuel : Nat) (listed : Array Bool) (vals : Nat -> Value) (a : Act) (w : World), listed.size = ops.size -> listed.toList.count false <= fuel -> (∀ j, j < ops.size -> listed.getD j false = true -> j < m) ->
   (∀ k, k < ops.size -> listed.getD k false = true -> ∀ j, j < ops.size -> bef ops k j = true -> listed.getD j false = true) -> At ops a0 vals listed a -> C w -> (∀ j, j < ops.size -> listed.getD j false = true -> S j (vals j) w) ->
   wpAny P .any ops Q fuel listed a w := by
 have low : ∀ (listed : Array Bool), listed.size = ops.size -> (¬ ∀ k, k < m -> D k = false -> listed.getD k false = true) -> Region.ready .any ops listed ≠ [] /\ ∃ k, k < m /\ D k = false /\ listed.getD k false = false := by
  intro listed hsz hno
  have hex : ∃ k, k < m /\ D k = false /\ listed.getD k false = false := by
   refine Classical.byContradiction (fun h => hno (fun k hk hD => ?_))
   cases hl : listed.getD k false with
   | true => rfl
   | false => exact absurd ⟨k, hk, hD, hl⟩ h
  refine ⟨?_, hex⟩
  obtain ⟨k0, hk0, _, hk1⟩ := hex
  replace hk0 := And.intro hk0 hk1
  have key : ∀ k, k < m /\ listed.getD k false = false -> ∃ k, k < m /\ listed.getD k false = false /\ ∀ j, j < k -> listed.getD j false = true := by
   intro k
   induction k using Nat.strongRecOn with
   | _ k ih =>
    intro hk
    by_cases h : ∀ j, j < k -> listed.getD j false = true
    ·exact ⟨k, hk.1, hk.2, h⟩
    ·have : ∃ j, j < k /\ listed.getD j false = false := by
      refine Classical.byContradiction (fun h2 => h (fun j hj => ?_))
      cases hl : listed.getD j false with
      | true => rfl
      | false => exact absurd ⟨j, hj, hl⟩ h2
     obtain ⟨j, hj, hl⟩ := this
     exact ih j hj ⟨by omega, hl⟩
  obtain ⟨k, hk, hu, hlow⟩ := key k0 hk0
  have hkn : k < ops.size := by omega
  refine List.ne_nil_of_mem (a := k) (mem_ready.2 ⟨?_, ops[k], Array.getElem?_eq_getElem hkn, fun e he hbd => hlow e.on (T.back (Array.getElem?_eq_getElem hkn) e he hbd)⟩)
  simpa [Array.getD_eq_getD_getElem?, hsz, hkn] using hu
 intro fuel
 induction fuel with
 | zero =>
  intro listed vals a w hsz hcnt hpre hcl hA hCw hSw
  refine hend 0 listed vals a w hsz hcnt hpre (fun k hk _ => ?_) hcl hA hCw hSw
  cases hu : listed.getD k false with
  | true => rfl
  | false =>
   exfalso
   have hkn : k < ops.size := by omega
   have : false ∈ listed.toList := by
    have h2 : listed[k]'(by omega) = false := by simpa [Array.getD_eq_getD_getElem?, hsz, hkn] using hu
    rw [<- h2]
    exact Array.getElem_mem_toList (h := by omega)
   have := List.count_pos_iff.2 this
   omega
 | succ fuel ih =>
  intro listed vals a w hsz hcnt hpre hcl hA hCw hSw
  by_cases hdone : ∀ k, k < m -> D k = false -> listed.getD k false = true
  ·exact hend _ listed vals a w hsz hcnt hpre hdone hcl hA hCw hSw
  obtain ⟨hr1, k1, hk1, hD1, hu1⟩ := low listed hsz hdone
  refine ⟨fun h => absurd h hr1, fun i hi => ?_⟩
  obtain ⟨h1, o, ho, hall⟩ := mem_ready.1 hi
  have hlt : i < ops.size := (Array.getElem?_eq_some_iff.1 ho).1
  have hun : listed.getD i false = false := by
   simpa [Array.getD_eq_getD_getElem?, hsz, hlt] using h1
  have hb : ∀ j, j < ops.size -> bef ops i j = true -> listed.getD j false = true := by
   intro j hj hbj
   obtain ⟨_, e, he, hbd, h2⟩ := T.close ho hj hbj
   have hle := hall e he hbd
   rcases h2 with rfl | h2
   ·exact hle
   ·exact hcl e.on (Nat.lt_trans (T.back ho e he hbd) hlt) hle j hj h2
  have hc : ∀ j, j < ops.size -> bef ops j i = true -> listed.getD j false = false := by
   intro j hj hbj
   cases hlj : listed.getD j false with
   | false => rfl
   | true =>
    have := hcl j hj hlj i hlt hbj
    rw [hun] at this
    cases this
  have hlook := fun t (ht : t ∈ o.looksAt ops) => zhl T ho hA hun hb hc ht
  have him : i < m := by
   refine Classical.byContradiction (fun hge => ?_)
   have := hb k1 (by omega) (htail i (by omega) hlt k1 (by omega) hD1)
   rw [hu1] at this
   cases this
  have hst := hstep i vals w him hCw (fun j hj hbj => hSw j hj (hb j hj hbj))
  have next : ∀ v w', Ext w w' -> S i v w' -> wpAny P .any ops Q fuel (listed.setIfInBounds i true) (a.put (zbk ops i) v) w' := by
   intro v w' he hs
   have hl : ∀ j d, (listed.setIfInBounds i true).getD j d = if j = i then true else listed.getD j d := by
    intro j d
    by_cases h : j = i
    ·subst h
     rw [if_pos rfl]
     simp [Array.getD_eq_getD_getElem?, hsz, hlt]
    ·rw [if_neg h, getD_set_ne d (Ne.symm h)]
   refine ih _ (fun j => if j = i then v else vals j) _ w' (by simpa using hsz) ?_ (fun j hj hlj => ?_) ?_ (zp6 T hlt hsz hun hA v) (hC he hCw) ?_
   ·have h2 : listed[i]'(by omega) = false := by simpa [Array.getD_eq_getD_getElem?, hsz, hlt] using h1
    have h3 : (listed.setIfInBounds i true).toList.count false + 1 = listed.toList.count false := by
     rw [Array.toList_setIfInBounds, List.count_set (by simpa using (by omega : i < listed.size))]
     have : listed.toList[i]'(by simpa using (by omega : i < listed.size)) = false := by simpa using h2
     have hp : 0 < listed.toList.count false := List.count_pos_iff.2 (by rw [<- h2]; exact Array.getElem_mem_toList (h := by omega))
     rw [this]
     simp only [beq_self_eq_true, if_true]
     have h5 : (true == false) = false := rfl
     rw [h5]
     simp only [Bool.false_eq_true, if_false]
     omega
    omega
   ·rw [hl] at hlj
    by_cases hji : j = i
    ·omega
    ·rw [if_neg hji] at hlj
     exact hpre j hj hlj
   ·intro k hk hlk j hj hbj
    rw [hl] at hlk ⊢
    by_cases hji : j = i
    ·rw [if_pos hji]
    ·rw [if_neg hji]
     by_cases hki : k = i
     ·subst hki; exact hb j hj hbj
     ·rw [if_neg hki] at hlk
      exact hcl k hk hlk j hj hbj
   ·intro j hj hlj
    by_cases hji : j = i
    ·subst hji
     simp only [if_true]
     exact hs
    ·rw [hl, if_neg hji] at hlj
     simp only [if_neg hji]
     exact hS he (hSw j hj hlj)
  unfold wpOp
  unfold zry at hst
  rw [ho] at hst ⊢
  simp only at hst ⊢
  rw [zdr o hlook]
  have hd : o.dst = zbk ops i := by simp [zbk, ho]
  by_cases hw : Region.wanted o (yielded ops (zao ops a0 vals i).tmps) = true
  ·rw [if_pos hw] at hst ⊢
   refine .inl (zev (R := fun v w' => Ext w w' /\ S i v w') ?_ (fun v w' hR => by rw [hd]; exact next v w' hR.1 hR.2))
   unfold za2 at hst ⊢
   rwa [zc7 o (Region.noSelect_spec T.sel i o · · ho) hlook]
  ·rw [if_neg hw] at hst ⊢
   rw [hd]
   exact next undef w (hrf w) hst
theorem zw9 (T : zfg ops) {Q : Exit -> Act -> World -> Prop} (m : Nat) (htail : ∀ k, m <= k -> k < ops.size -> ∀ j, j < k -> bef ops k j = true) : ∀ (tail : List Oper) (k : Nat) (a : Act) (w : World), (∀ j, j < tail.length -> tail[j]? = ops[k + j]?) -> m <= k -> k + tail.length = ops.size -> wpList P ops Q tail a w ->
  ∀ (fuel : Nat) (listed : Array Bool), listed.size = ops.size -> (∀ j, j < ops.size -> (listed.getD j false = true ↔ j < k)) -> listed.toList.count false <= fuel -> wpAny P .any ops Q fuel listed a w := by
 intro tail
 induction tail with
 | nil =>
  intro k a w _ _ hk h fuel listed hsz hl _
  have hr : Region.ready .any ops listed = [] := by
   refine List.eq_nil_iff_forall_not_mem.2 (fun i hi => ?_)
   obtain ⟨h1, o, ho, _⟩ := mem_ready.1 hi
   have hlt : i < ops.size := (Array.getElem?_eq_some_iff.1 ho).1
   have h2 := (hl i hlt).2 (by simp at hk; omega)
   have h3 : listed.getD i false = false := by simpa [Array.getD_eq_getD_getElem?, hsz, hlt] using h1
   rw [h3] at h2
   cases h2
  cases fuel with
  | zero => exact ⟨hr, h⟩
  | succ fuel => exact ⟨fun _ => h, fun i hi => by rw [hr] at hi; cases hi⟩
 | cons o tail ih =>
  intro k a w hidx hmk hk h fuel listed hsz hl hcnt
  simp only [List.length_cons] at hk
  have hkn : k < ops.size := by omega
  have ho : ops[k]? = some o := by have := hidx 0 (by simp); simpa using this.symm
  have hun : listed.getD k false = false := by
   cases hu : listed.getD k false with
   | false => rfl
   | true => have := (hl k hkn).1 hu; omega
  have h2 : listed[k]'(by omega) = false := by simpa [Array.getD_eq_getD_getElem?, hsz, hkn] using hun
  have hp : 0 < listed.toList.count false := List.count_pos_iff.2 (by rw [<- h2]; exact Array.getElem_mem_toList (h := by omega))
  cases fuel with
  | zero => omega
  | succ fuel =>
   have hr : k ∈ Region.ready .any ops listed := mem_ready.2 ⟨by simpa [Array.getD_eq_getD_getElem?, hsz, hkn] using hun, o, ho, fun e he hbd => by
    have := T.back ho e he hbd
    exact (hl e.on (by omega)).2 this⟩
   refine ⟨fun h0 => (by rw [h0] at hr; cases hr), fun i hi => ?_⟩
   obtain ⟨h1, oi, hoi, hall⟩ := mem_ready.1 hi
   have hlt : i < ops.size := (Array.getElem?_eq_some_iff.1 hoi).1
   have huni : listed.getD i false = false := by simpa [Array.getD_eq_getD_getElem?, hsz, hlt] using h1
   have hik : i = k := by
    refine Classical.byContradiction (fun hne => ?_)
    have hgt : k < i := by
     rcases Nat.lt_or_ge i k with h3 | h3
     ·have := (hl i hlt).2 h3
      rw [huni] at this
      cases this
     ·omega
    obtain ⟨_, e, he, hbd, h3⟩ := T.close hoi hkn (htail i (by omega) hlt k hgt)
    have he2 := hall e he hbd
    have hen : e.on < ops.size := by have := T.back hoi e he hbd; omega
    have hek := (hl e.on hen).1 he2
    rcases h3 with h3 | h3
    ·omega
    ·have := (T.close (Array.getElem?_eq_getElem hen) hkn h3).1
     omega
   subst hik
   have hl2 : ∀ j d, (listed.setIfInBounds i true).getD j d = if j = i then true else listed.getD j d := by
    intro j d
    by_cases h : j = i
    ·subst h
     rw [if_pos rfl]
     simp [Array.getD_eq_getD_getElem?, hsz, hlt]
    ·rw [if_neg h, getD_set_ne d (Ne.symm h)]
   have hcnt2 : (listed.setIfInBounds i true).toList.count false <= fuel := by
    have h3 : (listed.setIfInBounds i true).toList.count false + 1 = listed.toList.count false := by
     rw [Array.toList_setIfInBounds, List.count_set (by simpa using (by omega : i < listed.size))]
     have : listed.toList[i]'(by simpa using (by omega : i < listed.size)) = false := by simpa using h2
     rw [this]
     simp only [beq_self_eq_true, if_true]
     have h5 : (true == false) = false := rfl
     rw [h5]
     simp only [Bool.false_eq_true, if_false]
     omega
    omega
   have next : ∀ a' w', wpList P ops Q tail a' w' -> wpAny P .any ops Q fuel (listed.setIfInBounds i true) a' w' := fun a' w' h' =>
    ih (i + 1) a' w' (fun j hj => by
     have := hidx (j + 1) (by simp; omega)
     simp only [List.getElem?_cons_succ] at this
     rw [this]
     congr 1
     omega) (by omega) (by omega) h' fuel _ (by simpa using hsz) (fun j hj => by
      rw [hl2]
      by_cases hji : j = i
      ·subst hji; simp
      ·rw [if_neg hji, hl j hj]
       omega) hcnt2
   unfold wpOp
   rw [ho]
   simp only
   unfold wpList at h
   by_cases hw : Region.wanted o (yielded ops a.tmps) = true
   ·rw [if_pos hw] at h ⊢
    exact h.imp (Oper.wp_mono next) id
   ·rw [if_neg hw] at h ⊢
    exact next _ _ h
def wpT (P : Program) (ops : Array Oper) (Q : Exit -> Act -> World -> Prop) : List Oper -> Act -> World -> Prop
 | [], a, w => Q .normal a w
 | o :: rest, a, w => if Region.wanted o (yielded ops a.tmps) = true then za2 P o a w (fun v w' => wpT P ops Q rest (a.put o.dst v) w') else wpT P ops Q rest (a.put o.dst undef) w
theorem zr6 {a0 : Act} {f g : Nat -> Value} : ∀ k, (∀ j, j < k -> f j = g j) -> zao ops a0 f k = zao ops a0 g k := by
 intro k
 induction k with
 | zero => intro _; rfl
 | succ k ih => intro h; rw [zdy, zdy, ih (fun j hj => h j (by omega)), h k (by omega)]
def zaay (P : Program) (ops : Array Oper) (a0 : Act) (vals : Nat -> Value) (j : Nat) : Prop := ∀ o, ops[j]? = some o ->
 if Region.wanted o (yielded ops (zao ops a0 vals j).tmps) = true then ∀ w, (execOp (zao ops a0 vals j).eval o).run P w = .ok (.value (vals j)) w else undef = vals j
theorem zwo (T : zfg ops) {Q : Exit -> Act -> World -> Prop} {a0 : Act} (m : Nat) (D : Nat -> Bool) (htail : ∀ k, m <= k -> k < ops.size -> ∀ j, j < k -> D j = false -> bef ops k j = true) (hD : ∀ j, D j = true -> j < m) :
  ∀ (fuel : Nat) (listed : Array Bool) (vals : Nat -> Value) (a : Act) (w : World) (k : Nat) (rest : List Oper), listed.size = ops.size -> listed.toList.count false <= fuel -> m <= k -> k + rest.length = ops.size -> (∀ j, j < rest.length -> rest[j]? = ops[k + j]?) ->
   (∀ j, j < ops.size -> listed.getD j false = true -> j < k) -> (∀ j, j < k -> D j = false -> listed.getD j false = true) ->
   (∀ k, k < ops.size -> listed.getD k false = true -> ∀ j, j < ops.size -> bef ops k j = true -> listed.getD j false = true) -> At ops a0 vals listed a -> (∀ j, D j = true -> listed.getD j false = false -> zaay P ops a0 vals j) ->
   wpT P ops Q rest (zao ops a0 vals k) w -> wpAny P .any ops Q fuel listed a w := by
 have fin : ∀ (listed : Array Bool) (vals : Nat -> Value) (a : Act) (w : World) (k : Nat) (rest : List Oper), listed.size = ops.size -> m <= k -> k + rest.length = ops.size -> (∀ j, j < ops.size -> listed.getD j false = true -> j < k) -> At ops a0 vals listed a -> wpT P ops Q rest (zao ops a0 vals k) w -> Region.ready .any ops listed = [] -> Q .normal a w := by
  intro listed vals a w k rest hsz hmk hk hpre hA h hr
  have hall : ∀ j, j < ops.size -> listed.getD j false = true := by
   intro j
   induction j using Nat.strongRecOn with
   | _ j ih =>
    intro hj
    cases hu : listed.getD j false with
    | true => rfl
    | false =>
     exfalso
     have hmem : j ∈ Region.ready .any ops listed := by
      refine mem_ready.2 ⟨?_, ops[j], Array.getElem?_eq_getElem hj, fun e he hbd => ih e.on (T.back (Array.getElem?_eq_getElem hj) e he hbd) (Nat.lt_trans (T.back (Array.getElem?_eq_getElem hj) e he hbd) hj)⟩
      simpa [Array.getD_eq_getD_getElem?, hsz, hj] using hu
     rw [hr] at hmem
     cases hmem
  have hkn : k = ops.size := by
   rcases Nat.lt_or_ge k ops.size with h1 | h1
   ·have := hpre k h1 (hall k h1)
    omega
   ·omega
  subst hkn
  have h0 : rest = [] := List.eq_nil_of_length_eq_zero (by omega)
  subst h0
  rw [zu5 T (Nat.le_refl _) hA hpre (fun j hj => hall j hj)]
  exact h
 intro fuel
 induction fuel with
 | zero =>
  intro listed vals a w k rest hsz hcnt hmk hk hidx hpre hnd hcl hA hp h
  have hr : Region.ready .any ops listed = [] := by
   refine List.eq_nil_iff_forall_not_mem.2 (fun i hi => ?_)
   obtain ⟨h1, o, ho, _⟩ := mem_ready.1 hi
   have hlt : i < ops.size := (Array.getElem?_eq_some_iff.1 ho).1
   have : false ∈ listed.toList := by
    have h2 : listed[i]'(by omega) = false := by simpa [Array.getD_eq_getD_getElem?, hsz, hlt] using h1
    rw [<- h2]
    exact Array.getElem_mem_toList (h := by omega)
   have := List.count_pos_iff.2 this
   omega
  exact ⟨hr, fin listed vals a w k rest hsz hmk hk hpre hA h hr⟩
 | succ fuel ih =>
  intro listed vals a w k rest hsz hcnt hmk hk hidx hpre hnd hcl hA hp h
  refine ⟨fin listed vals a w k rest hsz hmk hk hpre hA h, fun i hi => ?_⟩
  obtain ⟨h1, o, ho, hall⟩ := mem_ready.1 hi
  have hlt : i < ops.size := (Array.getElem?_eq_some_iff.1 ho).1
  have hun : listed.getD i false = false := by simpa [Array.getD_eq_getD_getElem?, hsz, hlt] using h1
  have hb : ∀ j, j < ops.size -> bef ops i j = true -> listed.getD j false = true := by
   intro j hj hbj
   obtain ⟨_, e, he, hbd, h2⟩ := T.close ho hj hbj
   have hle := hall e he hbd
   rcases h2 with rfl | h2
   ·exact hle
   ·exact hcl e.on (Nat.lt_trans (T.back ho e he hbd) hlt) hle j hj h2
  have hc : ∀ j, j < ops.size -> bef ops j i = true -> listed.getD j false = false := by
   intro j hj hbj
   cases hlj : listed.getD j false with
   | false => rfl
   | true =>
    have := hcl j hj hlj i hlt hbj
    rw [hun] at this
    cases this
  have hlook := fun t (ht : t ∈ o.looksAt ops) => zhl T ho hA hun hb hc ht
  have hl : ∀ j d, (listed.setIfInBounds i true).getD j d = if j = i then true else listed.getD j d := by
   intro j d
   by_cases h : j = i
   ·subst h
    rw [if_pos rfl]
    simp [Array.getD_eq_getD_getElem?, hsz, hlt]
   ·rw [if_neg h, getD_set_ne d (Ne.symm h)]
  have hcnt2 : (listed.setIfInBounds i true).toList.count false <= fuel := by
   have h2 : listed[i]'(by omega) = false := by simpa [Array.getD_eq_getD_getElem?, hsz, hlt] using h1
   have hpos : 0 < listed.toList.count false := List.count_pos_iff.2 (by rw [<- h2]; exact Array.getElem_mem_toList (h := by omega))
   have h3 : (listed.setIfInBounds i true).toList.count false + 1 = listed.toList.count false := by
    rw [Array.toList_setIfInBounds, List.count_set (by simpa using (by omega : i < listed.size))]
    have : listed.toList[i]'(by simpa using (by omega : i < listed.size)) = false := by simpa using h2
    rw [this]
    simp only [beq_self_eq_true, if_true]
    have h5 : (true == false) = false := rfl
    rw [h5]
    simp only [Bool.false_eq_true, if_false]
    omega
   omega
  have hcl2 : ∀ k, k < ops.size -> (listed.setIfInBounds i true).getD k false = true -> ∀ j, j < ops.size -> bef ops k j = true -> (listed.setIfInBounds i true).getD j false = true := by
   intro k hk hlk j hj hbj
   rw [hl] at hlk ⊢
   by_cases hji : j = i
   ·rw [if_pos hji]
   ·rw [if_neg hji]
    by_cases hki : k = i
    ·subst hki; exact hb j hj hbj
    ·rw [if_neg hki] at hlk
     exact hcl k hk hlk j hj hbj
  have hd : o.dst = zbk ops i := by simp [zbk, ho]
  unfold wpOp
  rw [ho]
  simp only
  rw [zdr o hlook, hd]
  by_cases hik : i < k
  ·-- one that hangs on nothing
   have hDi : D i = true := by
    cases hDi : D i with
    | true => rfl
    | false => rw [hnd i hik hDi] at hun; cases hun
   have hpi := hp i hDi hun o ho
   have next : wpAny P .any ops Q fuel (listed.setIfInBounds i true) (a.put (zbk ops i) (vals i)) w := by
    have hAt := zp6 T hlt hsz hun hA (vals i)
    have hv : (fun j => if j = i then vals i else vals j) = vals := by
     funext j
     split
     ·rename_i h; rw [h]
     ·rfl
    rw [hv] at hAt
    refine ih _ vals _ w k rest (by simpa using hsz) hcnt2 hmk hk hidx (fun j hj hlj => ?_) (fun j hj hDj => ?_) hcl2 hAt (fun j hDj hlj => ?_) h
    ·rw [hl] at hlj
     by_cases hji : j = i
     ·omega
     ·rw [if_neg hji] at hlj
      exact hpre j hj hlj
    ·rw [hl]
     split
     ·rfl
     ·exact hnd j hj hDj
    ·rw [hl] at hlj
     by_cases hji : j = i
     ·rw [if_pos hji] at hlj; cases hlj
     ·rw [if_neg hji] at hlj
      exact hp j hDj hlj
   by_cases hw : Region.wanted o (yielded ops (zao ops a0 vals i).tmps) = true
   ·rw [if_pos hw] at hpi ⊢
    refine .inl ?_
    unfold Oper.wp
    rw [zc7 o (Region.noSelect_spec T.sel i o · · ho) hlook, hpi w]
    rw [<- hd] at next
    exact next
   ·rw [if_neg hw] at hpi ⊢
    rw [hpi]
    exact next
  ·-- the tail's next
   have hki : i = k := by
    refine Classical.byContradiction (fun hne => ?_)
    have hDk : D k = false := by
     cases hDk : D k with
     | false => rfl
     | true => have := hD k hDk; omega
    have := hb k (by omega) (htail i (by omega) hlt k (by omega) hDk)
    have := hpre k (by omega) this
    omega
   subst hki
   cases rest with
   | nil => simp at hk; omega
   | cons o' rest =>
    have ho' : o' = o := by
     have := hidx 0 (by simp)
     simp only [List.getElem?_cons_zero, Nat.add_zero] at this
     rw [ho] at this
     exact Option.some.inj this
    subst ho'
    have next : ∀ v w', wpT P ops Q rest ((zao ops a0 vals i).put (zbk ops i) v) w' -> wpAny P .any ops Q fuel (listed.setIfInBounds i true) (a.put (zbk ops i) v) w' := by
     intro v w' h'
     have hlow : ∀ j, j <= i -> zao ops a0 (fun j => if j = i then v else vals j) j = zao ops a0 vals j := fun j hj => zr6 j (fun q hq => if_neg (by omega))
     refine ih _ (fun j => if j = i then v else vals j) _ w' (i + 1) rest (by simpa using hsz) hcnt2 (by omega) (by simp at hk; omega) (fun j hj => by
      have := hidx (j + 1) (by simp; omega)
      simp only [List.getElem?_cons_succ] at this
      rw [this]
      congr 1
      omega) (fun j hj hlj => ?_) (fun j hj hDj => ?_) hcl2 (zp6 T hlt hsz hun hA v) (fun j hDj hlj => ?_) ?_
     ·rw [hl] at hlj
      by_cases hji : j = i
      ·omega
      ·rw [if_neg hji] at hlj
       have := hpre j hj hlj
       omega
     ·rw [hl]
      split
      ·rfl
      ·exact hnd j (by omega) hDj
     ·have hjm := hD j hDj
      rw [hl, if_neg (by omega)] at hlj
      intro o2 ho2
      have := hp j hDj hlj o2 ho2
      rw [hlow j (by omega)]
      simp only [if_neg (show ¬ j = i by omega)]
      exact this
     ·rw [zdy, hlow i (Nat.le_refl _)]
      simp only [if_true]
      exact h'
    unfold wpT at h
    by_cases hw : Region.wanted o' (yielded ops (zao ops a0 vals i).tmps) = true
    ·rw [if_pos hw] at h ⊢
     rw [hd] at h
     refine .inl (zev (R := fun v w' => wpT P ops Q rest ((zao ops a0 vals i).put (zbk ops i) v) w') ?_ (fun v w' hR => by rw [hd]; exact next v w' hR))
     unfold za2 at h ⊢
     rwa [zc7 o' (Region.noSelect_spec T.sel i o' · · ho) hlook]
    ·rw [if_neg hw] at h ⊢
     rw [hd] at h
     exact next _ _ h
inductive Ent where
 | det (v : Value)
 | mem (S : Value -> World -> Prop)
 | free (v : Value)
def Ent.val : Ent -> Value -> Value
 | .det v, _ => v
 | .mem _, u => u
 | .free v, _ => v
def Ent.sat : Ent -> Value -> World -> Prop
 | .det v, u, _ => u = v
 | .mem S, u, w => S u w
 | .free v, u, _ => u = v
def Ent.isFree : Ent -> Bool
 | .free _ => true
 | _ => false
def zbr (w w' : World) : Prop := Below w.heap.size w w'
theorem zbr.refl (w : World) : zbr w w := Below.refl _ _
theorem zbr.trans {a b c : World} (h : zbr a b) (k : zbr b c) : zbr a c := Below.trans h (Below.mono k h.size)
theorem zbr.cells {W w1 : World} (h : zbr W w1) : (∀ b o, b < W.heap.size -> w1.cell? ⟨b, o, none⟩ = W.cell? ⟨b, o, none⟩) /\ (∀ b o, b < W.heap.size -> w1.frozen? ⟨b, o, none⟩ = W.frozen? ⟨b, o, none⟩) := zabv h
theorem zn9 {P : Program} {R : Value -> World -> Prop} {u : Value} {w : World} (h : R u w) : zob P R (.ok (.value u) w) := h
theorem zra {P : Program} {R : Value -> World -> Prop} {w : World} (h : R undef w) : zob P R (.ok .skip w) := h
theorem zok {P : Program} {R : Value -> World -> Prop} {f : FuncId} {args : Array Value} {w : World} (h : Calls P f args w (fun e w'' => ∃ v, e = .returned v /\ R v w'')) : zob P R (.ok (.enter f args) w) := h
theorem zc6 {P : Program} {u : Value} {w : World} : zob P (fun v w' => zbr w w' /\ v = u) (.ok (.value u) w) := ⟨zbr.refl w, rfl⟩
def Ent.stable (e : Ent) : Prop := ∀ u w w', zbr w w' -> e.sat u w -> e.sat u w'
theorem zrs (v : Value) : (Ent.det v).stable := fun _ _ _ _ h => h
theorem zor (v : Value) : (Ent.free v).stable := fun _ _ _ _ h => h
def Ent.pure (P : Program) (ops : Array Oper) (o : Oper) (a : Act) : Ent -> Prop
 | .free v => if Region.wanted o (yielded ops a.tmps) = true then ∀ w, (execOp a.eval o).run P w = .ok (.value v) w else undef = v
 | _ => True
def actM (ops : Array Oper) (a : Act) (vals : Nat -> Value) : List Ent -> Act
 | [] => a
 | e :: es => (actM ops a vals es).put (zbk ops es.length) (e.val (vals es.length))      -- the last entry stands first
def wpM (P : Program) (ops : Array Oper) (a0 : Act) (w0 : World) (C : List Ent -> Prop) (R : List Ent -> Act -> World -> Prop) : List Oper -> List Ent -> Prop
 | [], es => C es /\ ∀ vals w, zbr w0 w -> (∀ j (e : Ent), es.reverse[j]? = some e -> e.sat (e.val (vals j)) w) -> R es (actM ops a0 vals es) w
 | o :: rest, es => ∃ e : Ent, e.stable /\
   (∀ vals w, zbr w0 w -> (∀ j (d : Ent), es.reverse[j]? = some d -> bef ops es.length j = true -> d.sat (d.val (vals j)) w) ->
    (if Region.wanted o (yielded ops (actM ops a0 vals es).tmps) = true then za2 P o (actM ops a0 vals es) w (fun v w' => zbr w w' /\ e.sat v w') else e.sat undef w) /\ e.pure P ops o (actM ops a0 vals es)) /\
   wpM P ops a0 w0 C R rest (e :: es)
theorem zny (a0 : Act) (vals : Nat -> Value) : ∀ es : List Ent, actM ops a0 vals es = zao ops a0 (fun j => match es.reverse[j]? with | some e => e.val (vals j) | none => vals j) es.length
 | [] => rfl
 | e :: es => by
  have hcong : ∀ (f g : Nat -> Value) (k : Nat), (∀ j, j < k -> f j = g j) -> zao ops a0 f k = zao ops a0 g k := by
   intro f g k
   induction k with
   | zero => intro _; rfl
   | succ k ih => intro h; unfold zao; rw [ih (fun j hj => h j (by omega)), h k (by omega)]
  unfold actM
  rw [zny a0 vals es]
  simp only [List.length_cons, List.reverse_cons]
  rw [zdy]
  have h1 : (es.reverse ++ [e])[es.length]? = some e := by simp
  rw [h1]
  rw [hcong _ (fun j => match (es.reverse ++ [e])[j]? with | some e => e.val (vals j) | none => vals j) es.length (fun j hj => by
   rw [List.getElem?_append_left (by simpa using hj)])]
  rfl
theorem zrm (T : zfg ops) {a0 : Act} {f g : Nat -> Value} {k : Nat} {o : Oper} (hk : ops[k]? = some o) (h : ∀ j, j < ops.size -> bef ops k j = true -> f j = g j) {t : Tmp} (ht : t ∈ o.looksAt ops) :
  (zao ops a0 f k).tmps[t]? = (zao ops a0 g k).tmps[t]? := by
 have hlt : k < ops.size := (Array.getElem?_eq_some_iff.1 hk).1
 by_cases hex : ∃ j, j < k /\ zbk ops j = some t
 ·obtain ⟨j, hj, hd⟩ := hex
  by_cases hs : t < a0.tmps.size
  ·rw [zct T a0 f hd hs k (by omega) hj, zct T a0 g hd hs k (by omega) hj]
   rcases T.looks hk ht (by omega) (by omega) hd with h1 | h1
   ·rw [h j (by omega) h1]
   ·have := (T.close (Array.getElem?_eq_getElem (show j < ops.size by omega)) hlt h1).1
    omega
  ·rw [Array.getElem?_eq_none (show (zao ops a0 f k).tmps.size <= t from Nat.le_of_not_lt (by rw [(zco a0 f k).1]; exact hs)), Array.getElem?_eq_none (show (zao ops a0 g k).tmps.size <= t from Nat.le_of_not_lt (by rw [(zco a0 g k).1]; exact hs))]
 ·rw [zby a0 f k (fun j hj hd => hex ⟨j, hj, hd⟩), zby a0 g k (fun j hj hd => hex ⟨j, hj, hd⟩)]
def entS (es : List Ent) (k : Nat) (u : Value) (w : World) : Prop := match es[k]? with | some e => e.sat u w | none => True
def entP (P : Program) (ops : Array Oper) (es : List Ent) (k : Nat) (a : Act) : Prop := ∀ o e, ops[k]? = some o -> es[k]? = some e -> e.pure P ops o a
theorem zum {P : Program} (o : Oper) (hs : ∀ cs b, o.op ≠ .select cs b) {a b : Act} (h : ∀ t ∈ o.looksAt ops, a.tmps[t]? = b.tmps[t]?) {e : Ent} (hp : e.pure P ops o b) : e.pure P ops o a := by
 cases e with
 | free v =>
  simp only [Ent.pure] at hp ⊢
  rw [zdr o h, zc7 o hs h]
  exact hp
 | det v => trivial
 | mem S => trivial
theorem zx8 (T : zfg ops) {a0 : Act} {w0 : World} {C : List Ent -> Prop} {R : List Ent -> Act -> World -> Prop} (m : Nat) (hm : m <= ops.size) : ∀ (rest : List Oper) (es : List Ent), es.length + rest.length = m -> (∀ j, j < rest.length -> rest[j]? = ops[es.length + j]?) -> wpM P ops a0 w0 C R rest es ->
  (∀ e ∈ es, e.stable) -> (∀ k vals w, k < es.length -> zbr w0 w -> (∀ j, j < ops.size -> bef ops k j = true -> entS es.reverse j (vals j) w) -> zry P ops zbr (entS es.reverse) k (zao ops a0 vals k) w /\ entP P ops es.reverse k (zao ops a0 vals k)) ->
  ∃ L : List Ent, L.length = m /\ C L.reverse /\ (∀ e ∈ L, e.stable) /\ (∀ k vals w, k < m -> zbr w0 w -> (∀ j, j < ops.size -> bef ops k j = true -> entS L j (vals j) w) -> zry P ops zbr (entS L) k (zao ops a0 vals k) w /\ entP P ops L k (zao ops a0 vals k)) /\
   (∀ vals w, zbr w0 w -> (∀ j (e : Ent), L[j]? = some e -> e.sat (e.val (vals j)) w) -> R L.reverse (actM ops a0 vals L.reverse) w) := by
 intro rest
 induction rest with
 | nil =>
  intro es hl _ h hs hst
  simp only [List.length_nil, Nat.add_zero] at hl
  refine ⟨es.reverse, by simpa using hl, by rw [List.reverse_reverse]; exact h.1, fun e he => hs e (by simpa using he), fun k vals w hk hw hj => hst k vals w (by omega) hw hj, fun vals w hw hsat => ?_⟩
  rw [List.reverse_reverse]
  exact h.2 vals w hw hsat
 | cons o rest ih =>
  intro es hl hidx h hs hst
  obtain ⟨e, he, hstep, hrest⟩ := h
  have hlen : es.length < ops.size := by simp only [List.length_cons] at hl; omega
  have ho : ops[es.length]? = some o := by have := hidx 0 (by simp); simpa using this.symm
  have hkeep : ∀ j, j < es.length -> (e :: es).reverse[j]? = es.reverse[j]? := fun j hj => by
   rw [List.reverse_cons, List.getElem?_append_left (by simpa using hj)]
  have hlast : (e :: es).reverse[es.length]? = some e := by simp
  refine ih (e :: es) (by simp only [List.length_cons] at hl ⊢; omega) (fun j hjr => by
   have := hidx (j + 1) (by simp; omega)
   simp only [List.getElem?_cons_succ] at this
   rw [this, List.length_cons]
   congr 1
   omega) hrest (fun d hd => by
    rcases List.mem_cons.1 hd with rfl | hd
    ·exact he
    ·exact hs d hd) (fun k vals w hk hw hj => ?_)
  simp only [List.length_cons] at hk
  by_cases hke : k < es.length
  ·have h1 := hst k vals w hke hw (fun j hjl hb => by
    have := hj j hjl hb
    have hjk := (T.close (Array.getElem?_eq_getElem (show k < ops.size by omega)) hjl hb).1
    unfold entS at this ⊢
    rwa [hkeep j (by omega)] at this)
   refine ⟨?_, fun o2 e2 ho2 he2 => h1.2 o2 e2 ho2 (by rw [hkeep k hke] at he2; exact he2)⟩
   replace h1 := h1.1
   unfold zry at h1 ⊢
   have h2 : entS (e :: es).reverse k = entS es.reverse k := by
    funext u w'
    unfold entS
    rw [hkeep k hke]
   rw [h2]
   exact h1
  ·obtain rfl : k = es.length := by omega
   have hdep : ∀ j, j < ops.size -> bef ops es.length j = true -> j < es.length := fun j hjl hb => (T.close ho hjl hb).1
   have h1 := hstep vals w hw (fun j d hd hb => by
    have hjl : j < es.length := by have := (List.getElem?_eq_some_iff.1 hd).1; simpa using this
    have h3 := hj j (by omega) hb
    unfold entS at h3
    rw [hkeep j hjl, hd] at h3
    cases d with
    | det v => exact rfl
    | free v => exact rfl
    | mem S => exact h3)
   rw [zny] at h1
   have hlook : ∀ t ∈ o.looksAt ops, (zao ops a0 vals es.length).tmps[t]? = (zao ops a0 (fun j => match es.reverse[j]? with | some e => e.val (vals j) | none => vals j) es.length).tmps[t]? := fun t ht =>
    zrm T ho (fun j hjl hb => by
     have h3 := hj j hjl hb
     have hjk := hdep j hjl hb
     unfold entS at h3
     rw [hkeep j hjk] at h3
     cases hd : es.reverse[j]? with
     | none => rfl
     | some d =>
      rw [hd] at h3
      cases d with
      | det v => exact h3
      | free v => exact h3
      | mem S => rfl) ht
   refine ⟨?_, fun o2 e2 ho2 he2 => by
    rw [ho] at ho2
    rw [hlast] at he2
    obtain rfl := Option.some.inj ho2
    obtain rfl := Option.some.inj he2
    exact zum o (Region.noSelect_spec T.sel _ o · · ho) hlook h1.2⟩
   replace h1 := h1.1
   unfold zry
   rw [ho]
   simp only
   rw [zdr o hlook]
   have h2 : ∀ u w', entS (e :: es).reverse es.length u w' = e.sat u w' := by
    intro u w'
    unfold entS
    rw [hlast]
   by_cases hwt : Region.wanted o (yielded ops (zao ops a0 (fun j => match es.reverse[j]? with | some e => e.val (vals j) | none => vals j) es.length).tmps) = true
   ·rw [if_pos hwt] at h1 ⊢
    unfold za2 at h1 ⊢
    rw [zc7 o (Region.noSelect_spec T.sel _ o · · ho) hlook]
    simp only [h2]
    exact h1
   ·rw [if_neg hwt] at h1 ⊢
    rw [h2]
    exact h1
def zxi (ops : Array Oper) (m : Nat) : Bool := (List.range ops.size).all fun k => decide (k < m) || (List.range k).all fun j => bef ops k j
theorem zzw {m : Nat} (h : zxi ops m = true) : ∀ k, m <= k -> k < ops.size -> ∀ j, j < k -> bef ops k j = true := by
 intro k hmk hk j hj
 have h1 := List.all_eq_true.1 h k (List.mem_range.2 hk)
 rw [Bool.or_eq_true, decide_eq_true_eq] at h1
 rcases h1 with h1 | h1
 ·omega
 ·exact List.all_eq_true.1 h1 j (List.mem_range.2 hj)
theorem zq1 {L : List Ent} {vals : Nat -> Value} {w : World} (hsat : ∀ j (e : Ent), L[j]? = some e -> e.sat (vals j) w) : (fun j => match L[j]? with | some e => e.val (vals j) | none => vals j) = vals := by
 funext j
 cases hje : L[j]? with
 | none => rfl
 | some e =>
  have := hsat j e hje
  cases e with
  | det v => exact this.symm
  | free v => exact this.symm
  | mem S => rfl
theorem zy4 {e : Ent} {u : Value} {w : World} (h : e.sat u w) : e.sat (e.val u) w := by
 cases e with
 | det v => exact rfl
 | free v => exact rfl
 | mem S => exact h
theorem zbc {n j : Nat} : (Array.replicate n false).getD j false = false := by
 simp [Array.getD_eq_getD_getElem?, Array.getElem?_replicate]
 split <;> simp
def zss (ops : Array Oper) (m : Nat) (D : List Nat) : Bool := (List.range ops.size).all (fun k => decide (k < m) || (List.range k).all fun j => D.contains j || bef ops k j) && D.all fun j => decide (j < m)
def zte (D : List Nat) (es : List Ent) : Bool := D.all fun j => match es.reverse[j]? with | some e => e.isFree | none => false
theorem zj1 {id : Nat} {l tail : List Oper} {Q : Exit -> Act -> World -> Prop} {a : Act} {w : World} (D : List Nat) (hm : P.follows .mixedOrders = true) (hT : zfa (l ++ tail).toArray = true) (hU : zss (l ++ tail).toArray l.length D = true)
  (h : wpM P (l ++ tail).toArray a w (fun es => zte D es = true) (fun _ => wpT P (l ++ tail).toArray Q tail) l []) : (Code.region id (l ++ tail).toArray true).wp P Q a w := by
 have T := zfw hT
 unfold zss at hU
 rw [Bool.and_eq_true] at hU
 obtain ⟨hU, hDm⟩ := hU
 have U : ∀ k, l.length <= k -> k < (l ++ tail).toArray.size -> ∀ j, j < k -> D.contains j = false -> bef (l ++ tail).toArray k j = true := by
  intro k hmk hk j hj hDj
  have h1 := List.all_eq_true.1 hU k (List.mem_range.2 hk)
  rw [Bool.or_eq_true, decide_eq_true_eq] at h1
  rcases h1 with h1 | h1
  ·omega
  ·have h2 := List.all_eq_true.1 h1 j (List.mem_range.2 hj)
   rw [hDj] at h2
   simpa using h2
 have hDl : ∀ j, D.contains j = true -> j < l.length := fun j hj => by
  have := List.all_eq_true.1 hDm j (by simpa using hj)
  simpa using this
 have hle : l.length <= (l ++ tail).toArray.size := by simp
 obtain ⟨L, hL, hC, hs, hst, hend⟩ := zx8 (ops := (l ++ tail).toArray) T l.length hle l [] (by simp) (fun j hj => by
  simp only [List.length_nil, Nat.zero_add, List.getElem?_toArray]
  rw [List.getElem?_append_left hj]) h (fun e he => by cases he) (fun k vals w hk => by simp at hk)
 refine wp_region_any hm (zvr T zbr.refl (fun w' => zbr w w') (fun hab hb => zbr.trans hb hab) (entS L) ?_ a Q l.length hle (fun j => D.contains j) U (fun k vals w' hk hw' hj => (hst k vals w' hk hw' hj).1) ?_ _ _ (fun _ => undef) a _ (by simp) (by simp) ?_ ?_ ?_ ?_ ?_)
 ·intro k v w1 w2 h12 h1
  unfold entS at h1 ⊢
  cases hk : L[k]? with
  | none => trivial
  | some e =>
   rw [hk] at h1
   exact hs e (List.mem_of_getElem? hk) v w1 w2 h12 h1
 ·intro fuel listed vals a' w' hsz hcnt hpre hall hcl hA hw' hj
  -- the values of what isn't listed yet are known
  have hfree : ∀ j, D.contains j = true -> ∃ v, L[j]? = some (.free v) := by
   intro j hDj
   unfold zte at hC
   have h1 := List.all_eq_true.1 hC j (by simpa using hDj)
   rw [List.reverse_reverse] at h1
   cases hje : L[j]? with
   | none => rw [hje] at h1; cases h1
   | some e =>
    rw [hje] at h1
    cases e with
    | free v => exact ⟨v, rfl⟩
    | det v => cases h1
    | mem S => cases h1
  obtain ⟨vs, hvs⟩ : ∃ vs : Nat -> Value, vs = fun j => if listed.getD j false = true then vals j else match L[j]? with | some e => e.val (vals j) | none => vals j := ⟨_, rfl⟩
  have hon : ∀ j, listed.getD j false = true -> vs j = vals j := fun j hl => by rw [hvs]; simp only [hl, if_true]
  have hsat : ∀ j (e : Ent), L[j]? = some e -> e.sat (vs j) w' := fun j e hje => by
   have hjl : j < l.length := by rw [<- hL]; exact (List.getElem?_eq_some_iff.1 hje).1
   cases hl : listed.getD j false with
   | true =>
    rw [hon j hl]
    have := hj j (by omega) hl
    unfold entS at this
    rwa [hje] at this
   | false =>
    have hDj : D.contains j = true := by
     cases hDj : D.contains j with
     | true => rfl
     | false => rw [hall j hjl hDj] at hl; cases hl
    obtain ⟨v, hv⟩ := hfree j hDj
    rw [hje] at hv
    obtain rfl := Option.some.inj hv
    rw [hvs]
    simp only [hl, hje]
    exact rfl
  have hAt : At (l ++ tail).toArray a vs listed a' := ⟨hA.size, hA.defers, fun {j t} hj hlj hd ht => by rw [hon j hlj]; exact hA.on hj hlj hd ht, hA.off⟩
  have h1 := hend vs w' hw' (fun j e hje => zy4 (hsat j e hje))
  rw [zny, List.reverse_reverse, List.length_reverse, hL, zq1 hsat] at h1
  refine zwo T l.length (fun j => D.contains j) U hDl fuel listed vs a' w' l.length tail hsz hcnt (Nat.le_refl _) (by simp) (fun j hj => by
   simp only [List.getElem?_toArray]
   rw [List.getElem?_append_right (by omega)]
   congr 1
   omega) hpre hall hcl hAt (fun j hDj hlj => ?_) h1
  intro o ho
  obtain ⟨v, hv⟩ := hfree j hDj
  have hjl := hDl j hDj
  have h2 := (hst j vs w' hjl hw' (fun i hi hbi => by
   unfold entS
   cases hie : L[i]? with
   | none => trivial
   | some e => exact hsat i e hie)).2 o _ ho hv
  have h3 : vs j = v := hsat j _ hv
  rw [h3]
  exact h2
 ·intro j hj hlk
  rw [zbc] at hlk
  cases hlk
 ·intro k hk hlk
  rw [zbc] at hlk
  cases hlk
 ·exact ⟨rfl, rfl, fun hj hlk => absurd (zbc.symm.trans hlk) (by decide), fun _ => rfl⟩
 ·exact ⟨rfl, rfl, rfl, Nat.le_refl _, fun _ _ => rfl⟩
 ·intro j hj hlk
  rw [zbc] at hlk
  cases hlk
def wpN (P : Program) (ops : Array Oper) (w0 : World) (C : List Ent -> Prop) (R : List Ent -> Act -> World -> Prop) : List Oper -> ((Nat -> Value) -> Act) -> List Ent -> Prop
 | [], F, es => C es /\ ∀ vals w, zbr w0 w -> (∀ j (e : Ent), es.reverse[j]? = some e -> e.sat (e.val (vals j)) w) -> R es (F vals) w
 | o :: rest, F, es => ∃ e : Ent, e.stable /\
   (∀ vals w, zbr w0 w -> (∀ j (d : Ent), es.reverse[j]? = some d -> bef ops es.length j = true -> d.sat (d.val (vals j)) w) ->
    (if Region.wanted o (yielded ops (F vals).tmps) = true then za2 P o (F vals) w (fun v w' => zbr w w' /\ e.sat v w') else e.sat undef w) /\ e.pure P ops o (F vals)) /\
   wpN P ops w0 C R rest (fun vals => (F vals).put o.dst (e.val (vals es.length))) (e :: es)
theorem zkd {a0 : Act} {w0 : World} {C : List Ent -> Prop} {R : List Ent -> Act -> World -> Prop} : ∀ (rest : List Oper) (es : List Ent), (∀ j, rest[j]? = ops[es.length + j]? \/ rest.length <= j) -> wpN P ops w0 C R rest (fun vals => actM ops a0 vals es) es -> wpM P ops a0 w0 C R rest es
 | [], _, _, h => h
 | o :: rest, es, hi, h => by
  obtain ⟨e, he, h1, h2⟩ := h
  have ho : ops[es.length]? = some o := by
   rcases hi 0 with h3 | h3
   ·simpa using h3.symm
   ·simp at h3
  refine ⟨e, he, h1, zkd rest (e :: es) (fun j => ?_) ?_⟩
  ·rcases hi (j + 1) with h3 | h3
   ·left
    simp only [List.getElem?_cons_succ] at h3
    rw [h3, List.length_cons]
    congr 1
    omega
   ·right
    simp only [List.length_cons] at h3
    omega
  ·have : (fun vals => actM ops a0 vals (e :: es)) = fun vals => (actM ops a0 vals es).put o.dst (e.val (vals es.length)) := by
    funext vals
    show (actM ops a0 vals es).put (zbk ops es.length) _ = _
    unfold zbk
    rw [ho]
    rfl
   rw [this]
   exact h2
theorem zh2 (m : Nat) (D : List Nat) {ls : List Oper} {id : Nat} {Q : Exit -> Act -> World -> Prop} {a : Act} {w : World} (hm : P.follows .mixedOrders = true) (hT : zfa ls.toArray = true) (hU : zss ls.toArray m D = true) (hl : m <= ls.length)
  (h : wpN P ls.toArray w (fun es => zte D es = true) (fun _ => wpT P ls.toArray Q (ls.drop m)) (ls.take m) (fun _ => a) []) : (Code.region id ls.toArray true).wp P Q a w := by
 have e : ls.take m ++ ls.drop m = ls := List.take_append_drop m ls
 have h1 := zj1 (P := P) (l := ls.take m) (tail := ls.drop m) (id := id) (Q := Q) (a := a) (w := w) D hm (by rw [e]; exact hT) (by rw [e, List.length_take, Nat.min_eq_left hl]; exact hU) (zkd _ [] (fun j => by
  by_cases hj : j < (ls.take m).length
  ·left
   simp only [List.length_nil, Nat.zero_add, List.getElem?_toArray]
   rw [List.getElem?_append_left hj]
  ·right
   omega) (by rw [e]; exact h))
 rwa [e] at h1
theorem zy6 {Q : Exit -> Act -> World -> Prop} {a : Act} {w : World} (h : Q .normal a w) : wpT P ops Q [] a w := h
theorem zp1 {Q : Exit -> Act -> World -> Prop} {o : Oper} {rest : List Oper} {a : Act} {w : World} (h : ∀ K : Act -> World -> Prop, (∀ a w, wpT P ops Q rest a w -> K a w) -> if Region.wanted o (yielded ops a.tmps) = true then za2 P o a w (fun v w' => K (a.put o.dst v) w') else K (a.put o.dst undef) w) : wpT P ops Q (o :: rest) a w :=
 h _ (fun _ _ h => h)
section
variable {w0 : World} {C : List Ent -> Prop} {R : List Ent -> Act -> World -> Prop} {o : Oper} {rest : List Oper} {F : (Nat -> Value) -> Act} {es : List Ent}
theorem zya (hc : C es) (h : ∀ vals w, zbr w0 w -> (∀ j (e : Ent), es.reverse[j]? = some e -> e.sat (e.val (vals j)) w) -> R es (F vals) w) : wpN P ops w0 C R [] F es := ⟨hc, h⟩
theorem zfo {v : Value} (h : ∀ vals w, zbr w0 w -> (∀ j (d : Ent), es.reverse[j]? = some d -> bef ops es.length j = true -> d.sat (d.val (vals j)) w) ->
   if Region.wanted o (yielded ops (F vals).tmps) = true then za2 P o (F vals) w (fun u w' => zbr w w' /\ u = v) else undef = v)
  (hr : wpN P ops w0 C R rest (fun vals => (F vals).put o.dst v) (.det v :: es)) : wpN P ops w0 C R (o :: rest) F es := ⟨.det v, zrs v, fun vals w hw hd => ⟨h vals w hw hd, trivial⟩, hr⟩
theorem zw8 {v : Value} (h : ∀ vals w, (∀ j (d : Ent), es.reverse[j]? = some d -> bef ops es.length j = true -> d.sat (d.val (vals j)) w) ->
   if Region.wanted o (yielded ops (F vals).tmps) = true then ∀ w, (execOp (F vals).eval o).run P w = .ok (.value v) w else undef = v)
  (hr : wpN P ops w0 C R rest (fun vals => (F vals).put o.dst v) (.free v :: es)) : wpN P ops w0 C R (o :: rest) F es := ⟨.free v, zor v, fun vals w hw hd => ⟨by
   have h1 := h vals w hd
   by_cases hwt : Region.wanted o (yielded ops (F vals).tmps) = true
   ·rw [if_pos hwt] at h1 ⊢
    unfold za2
    rw [h1 w]
    exact ⟨zbr.refl w, rfl⟩
   ·rw [if_neg hwt] at h1 ⊢
    exact h1, h vals w hd⟩, hr⟩
theorem zym (S : Value -> World -> Prop) (hS : ∀ u w w', zbr w w' -> S u w -> S u w') (h : ∀ vals w, zbr w0 w -> (∀ j (d : Ent), es.reverse[j]? = some d -> bef ops es.length j = true -> d.sat (d.val (vals j)) w) ->
   if Region.wanted o (yielded ops (F vals).tmps) = true then za2 P o (F vals) w (fun u w' => zbr w w' /\ S u w') else S undef w)
  (hr : wpN P ops w0 C R rest (fun vals => (F vals).put o.dst (vals es.length)) (.mem S :: es)) : wpN P ops w0 C R (o :: rest) F es := ⟨.mem S, hS, fun vals w hw hd => ⟨h vals w hw hd, trivial⟩, hr⟩
end
end
end
end Go.Proofs.Mono
end
section
namespace Go.Proofs.YtmkpiekbpakigaaDoor
open Go.RowKit Go.Proofs.Base Go.Proofs.Mono
def mxi (x y : Int) : Int := if y > x then y else x
def Lv.max2 (a l : Lv) : Lv := ⟨mxi a.b l.b, mxi a.p0 l.p0, mxi a.p1 l.p1, mxi a.p2 l.p2, mxi a.p3 l.p3⟩
def Lv.num (n : Int) : Lv := ⟨n, -1, -1, -1, -1⟩
def Lv.maxl (ls : List Lv) : Lv := if ls.all Lv.right then ls.foldl Lv.max2 (Lv.num 0) else Lv.num (-1)
theorem Lv.maxl_not {ls : List Lv} {k : Nat} {l : Lv} (h : ls[k]? = some l) (hr : l.right = false) : Lv.maxl ls = Lv.num (-1) := by
 unfold Lv.maxl
 rw [if_neg]
 intro ha
 have := List.all_eq_true.1 ha l (List.mem_of_getElem? h)
 rw [hr] at this
 cases this
theorem Lv.maxl_yes {ls : List Lv} {k : Nat} (hk : k = ls.length) (h : (ls.take k).all Lv.right = true) : Lv.maxl ls = (ls.take k).foldl Lv.max2 (Lv.num 0) := by
 subst hk
 rw [List.take_length] at *
 unfold Lv.maxl
 rw [if_pos h]
theorem zkm {α : Type} {ls : List α} {k : Nat} {l : α} (h : ls[k]? = some l) : ls.take (k + 1) = ls.take k ++ [l] := by
 rw [List.take_add_one, h]
 rfl
def LvAt (w : World) (b off : Nat) (l : Lv) : Prop := w.cell? ⟨b, off, none⟩ = some (.int .i64 l.b) /\ w.cell? ⟨b, off + 1, none⟩ = some (.int .i64 l.p0) /\ w.cell? ⟨b, off + 2, none⟩ = some (.int .i64 l.p1) /\ w.cell? ⟨b, off + 3, none⟩ = some (.int .i64 l.p2) /\ w.cell? ⟨b, off + 4, none⟩ = some (.int .i64 l.p3)
def zcz (w : World) (A : Option Addr) (ls : List Lv) : Prop := ls.length <= 9223372036854775807 /\ (0 < ls.length -> ∃ b off, A = some ⟨b, off, none⟩ /\ ∀ (j : Nat) l, ls[j]? = some l -> LvAt w b (off + j * 5) l)
theorem zec {w w1 : World} (hb : Below w.heap.size w w1) {a : Addr} {v : Value} (hc : w.cell? a = some v) : w1.cell? a = some v := (hb.cell (World.block_lt_of_cell? w a hc)).trans hc
theorem LvAt.below {w w1 : World} {b off : Nat} {l : Lv} (h : LvAt w b off l) (hb : Below w.heap.size w w1) : LvAt w1 b off l :=
 ⟨zec hb h.1, zec hb h.2.1, zec hb h.2.2.1, zec hb h.2.2.2.1, zec hb h.2.2.2.2⟩
theorem zcz.below {w w1 : World} {A : Option Addr} {ls : List Lv} (h : zcz w A ls) (hb : Below w.heap.size w w1) : zcz w1 A ls :=
 ⟨h.1, fun hp => let ⟨b, off, e, hc⟩ := h.2 hp; ⟨b, off, e, fun j l hl => (hc j l hl).below hb⟩⟩
set_option maxHeartbeats 2000000 in
theorem zxb (b off c : Nat) (ls : List Lv) (w : World) (hl : ls.length <= 9223372036854775807) (h : ∀ (j : Nat) l, ls[j]? = some l -> LvAt w b (off + j * 5) l) :
  Calls Tryd.prog 17 #[.slice (some ⟨b, off, none⟩) ls.length c] w fun e w' => e = .returned (Lv.maxl ls).val /\ Below w.heap.size w w' := by
 have H := Lib.hid h
 clear h
 go_enter Tryd.func17, Tryd.ntmps17
 go_wp2_with fail
 refine (zkw _ _).mono ?_
 rintro e w1 ⟨rfl, hb⟩
 have hB := (Blk.new _ _ _).bel hb
 have hBW := zfn (B := w.heap.size) (a := w) (by go_grown) hb (by simp)
 have hz : w.heap.size + 1 <= w1.heap.size := by have := hb.size; simpa using this
 clear hb
 have HBW := Lib.hid hBW
 clear hBW
 have hB2 : Blk w1 w.heap.size 24 #[.int .i64 0, .int .i64 0, .int .i64 0, .int .i64 0, .int .i64 0] := hB
 have HB2 := Lib.hid hB2
 clear hB2 hB
 go_wp2
 go_loopw [11] (fun i wr => ∃ k : Nat, k <= ls.length /\ i = .int .i64 k /\ (∃ a : Lv, a = (ls.take k).foldl Lv.max2 (Lv.num 0) /\ (ls.take k).all Lv.right = true /\ Blk wr w1.heap.size 24 #[.int .i64 a.b, .int .i64 a.p0, .int .i64 a.p1, .int .i64 a.p2, .int .i64 a.p3]) /\
   Blk wr w.heap.size 24 #[.int .i64 0, .int .i64 0, .int .i64 0, .int .i64 0, .int .i64 0] /\ Below w.heap.size w wr) (fun i _ => ls.length - (intOf i).toNat)
 case atStart =>
  refine ⟨0, by omega, rfl, ⟨Lv.num 0, rfl, rfl, Blk.new _ _ _⟩, HB2.out.alloc _, ?_⟩
  have := HBW.out
  go_grown
 case round =>
  obtain ⟨k, hk, rfl, ⟨a, ha, hall, hB3⟩, hB4, hbw⟩ := hrel
  have HBr := Lib.hid hbw
  clear hbw
  have HA := Lib.hid ha
  clear ha
  have HL := Lib.hid hall
  clear hall
  by_cases hlt : k < ls.length
  ·obtain ⟨l, hl2⟩ : ∃ l, ls[k]? = some l := ⟨ls[k], List.getElem?_eq_getElem hlt⟩
   obtain ⟨e0, e1, e2, e3, e4⟩ := (H.out k l hl2).below HBr.out
   have HL2 := Lib.hid hl2
   clear hl2
   go_wp2_with fail
   refine (zcn _ _ _ _ _ _).mono ?_
   rintro e w2 ⟨rfl, hb⟩
   have hB5 := (Blk.new _ _ _).bel hb
   have hB6 := (hB3.alloc _).bel hb
   have hB7 := (hB4.alloc _).bel hb
   have hBW := zfn (B := w.heap.size) (HBr.out.alloc (by have := HBr.out.size; omega) _) hb (by have := HBr.out.size; simp; omega)
   have h1 : w1.heap.size < wr.heap.size := hB3.lt
   have h2 : w.heap.size < wr.heap.size := hB4.lt
   clear hb hB3 hB4
   have HBW2 := Lib.hid hBW
   clear hBW
   obtain ⟨c0, c1, c2, c3, c4, cf⟩ := hB6.cells5
   obtain ⟨d0, d1, d2, d3, d4, df⟩ := hB7.cells5
   obtain ⟨f0, f1, f2, f3, f4, ff⟩ := hB5.cells5
   have HB5 := Lib.hid hB5
   have HB6 := Lib.hid hB6
   have HB7 := Lib.hid hB7
   clear hB5 hB6 hB7 e0 e1 e2 e3 e4
   cases hr : Lv.right ⟨l.b, l.p0, l.p1, l.p2, l.p3⟩
   ·go_wp2_with fail
    refine (zkw _ _).mono ?_
    rintro e w3 ⟨rfl, hb⟩
    obtain ⟨g0, g1, g2, g3, g4, gf⟩ := (HB7.out.bel hb).cells5
    have HBW3 := Lib.hid (zfn HBW2.out hb (by have := HBW2.out.size; omega))
    clear hb c0 c1 c2 c3 c4 cf d0 d1 d2 d3 d4 df f0 f1 f2 f3 f4 ff
    go_wp2
    refine bodyPost_ret (v := (Lv.num (-1)).val) (by simp [results, Tryd.results17, go_sem, g0, g1, g2, g3, g4]; rfl) rfl ⟨?_, ?_⟩
    ·rw [Lv.maxl_not HL2.out hr]
    ·have := HBW3.out
     go_grown
   ·have i0 := fun w => (ix w l.p0 l.p1 l.p2 l.p3).1
    have i1 := fun w => (ix w l.p0 l.p1 l.p2 l.p3).2.1
    have i2 := fun w => (ix w l.p0 l.p1 l.p2 l.p3).2.2.1
    have i3 := fun w => (ix w l.p0 l.p1 l.p2 l.p3).2.2.2
    have hm : ∀ x y : Int, (if x < y then y else x) = mxi x y := fun _ _ => rfl
    go_wp2
    go_rounds 5
    refine ⟨⟨k + 1, by omega, by go_num, ⟨Lv.max2 a l, ?_, ?_, ?_⟩, ?_, ?_⟩, by simp [intOf]; omega⟩
    ·rw [zkm HL2.out, List.foldl_append, <- HA.out]; rfl
    ·rw [zkm HL2.out, List.all_append, HL.out]; simp [hr]
    ·exact ((((HB6.out.set_ 0 _).set_ 1 _).set_ 2 _).set_ 3 _).set_ 4 _
    ·exact (((((HB7.out.far (by simp; omega) _).far (by simp; omega) _).far (by simp; omega) _).far (by simp; omega) _).far (by simp; omega) _)
    ·have := HBW2.out
     go_grown
  ·have hk2 : k = ls.length := by omega
   have HK := Lib.hid hk2
   clear hk2
   obtain ⟨c0, c1, c2, c3, c4, cf⟩ := hB3.cells5
   obtain ⟨d0, d1, d2, d3, d4, df⟩ := hB4.cells5
   clear hB3 hB4
   go_wp2
   refine bodyPost_ret (v := a.val) (by simp [results, Tryd.results17, go_sem, d0, d1, d2, d3, d4]; rfl) rfl ⟨?_, ?_⟩
   ·rw [Lv.maxl_yes HK.out HL.out, HA.out]
   ·have := HBr.out
    go_grown
set_option maxHeartbeats 2000000 in
theorem zw3 (A : Option Addr) (c : Nat) (w : World) :
  Calls Tryd.prog 17 #[.slice A 0 c] w fun e w' => e = .returned (Lv.num 0).val /\ Below w.heap.size w w' := by
 go_enter Tryd.func17, Tryd.ntmps17
 go_wp2_with fail
 refine (zkw _ _).mono ?_
 rintro e w1 ⟨rfl, hb⟩
 have hB := (Blk.new _ _ _).bel hb
 have hBW := zfn (B := w.heap.size) (a := w) (by go_grown) hb (by simp)
 have hz : w.heap.size < w1.heap.size := by have := hb.size; simp at this; omega
 clear hb
 have HBW := Lib.hid hBW
 clear hBW
 have hB2 : Blk w1 w.heap.size 24 #[.int .i64 0, .int .i64 0, .int .i64 0, .int .i64 0, .int .i64 0] := hB
 obtain ⟨d0, d1, d2, d3, d4, df⟩ := hB2.cells5
 clear hB2 hB
 go_wp2
 go_rounds 1
 refine bodyPost_ret (v := .agg #[.int .i64 0, .int .i64 (-1), .int .i64 (-1), .int .i64 (-1), .int .i64 (-1)]) (by simp [results, Tryd.results17, go_sem, d0, d1, d2, d3, d4, hz]) rfl ⟨rfl, ?_⟩
 have := HBW.out
 go_grown
theorem zyw (A : Option Addr) (c : Nat) (ls : List Lv) (w : World) (h : zcz w A ls) (n : Nat) (hn : n = ls.length) :
  Calls Tryd.prog 17 #[.slice A n c] w fun e w' => e = .returned (Lv.maxl ls).val /\ Below w.heap.size w w' := by
 subst hn
 rcases Nat.eq_zero_or_pos ls.length with h0 | h0
 ·obtain rfl := List.eq_nil_of_length_eq_zero h0
  exact zw3 A c w
 ·obtain ⟨b, off, rfl, hc⟩ := h.2 h0
  exact zxb b off c ls w h.1 hc
end Go.Proofs.YtmkpiekbpakigaaDoor
end
section
set_option linter.unusedVariables false
set_option linter.unusedSimpArgs false
namespace Go.Proofs.YtmkpiekbpakigaaDoor
open Go.RowKit Go.Proofs.Base Go.Proofs.Mono
def Lv.up1 (p n : Int) : Int := if p = -1 then -1 else p + n
def Lv.up (l : Lv) (n : Int) : Lv × Bool :=
 if l.right = true /\ 0 <= n /\ n <= 100 - l.b then (⟨l.b + n, Lv.up1 l.p0 n, Lv.up1 l.p1 n, Lv.up1 l.p2 n, Lv.up1 l.p3 n⟩, true) else (⟨0, 0, 0, 0, 0⟩, false)
theorem Lv.right_bd {l : Lv} (h : l.right = true) : (-1 <= l.p0 /\ l.p0 <= l.b) /\ (-1 <= l.p1 /\ l.p1 <= l.b) /\ (-1 <= l.p2 /\ l.p2 <= l.b) /\ (-1 <= l.p3 /\ l.p3 <= l.b) /\ 0 <= l.b /\ l.b <= 100 := by
 simpa [Lv.right] using h
theorem zl4 {p n : Int} (h : p = -1) : Lv.up1 p n = p := by unfold Lv.up1; rw [if_pos h, h]
theorem zpd {p n : Int} (h : ¬ p = -1) : Lv.up1 p n = p + n := by unfold Lv.up1; rw [if_neg h]
set_option maxHeartbeats 2000000 in
theorem zaa9 (b p0 p1 p2 p3 n : Int) (w : World) (h : ¬ (Lv.right ⟨b, p0, p1, p2, p3⟩ = true /\ 0 <= n /\ n <= 100 - b)) :
  Calls Tryd.prog 50 #[.agg #[.int .i64 b, .int .i64 p0, .int .i64 p1, .int .i64 p2, .int .i64 p3], .int .i64 n] w fun e w' =>
   e = .returned (.tuple #[.agg #[.int .i64 0, .int .i64 0, .int .i64 0, .int .i64 0, .int .i64 0], .bool false]) /\ Below w.heap.size w w' := by
 cases hr : Lv.right ⟨b, p0, p1, p2, p3⟩
 ·clear h
  go_enter Tryd.func50, Tryd.ntmps50
  go_wp2_with fail
  refine (zcn _ _ _ _ _ _).mono ?_
  rintro e w' ⟨rfl, hb⟩
  have hB2 := (Blk.new _ _ _).bel hb
  rw [World.size_alloc] at hB2
  obtain ⟨c0, c1, c2, c3, c4, cf⟩ := hB2.cells5
  have hBW := zfn (B := w.heap.size) (a := w) (by go_grown) hb (by simp; omega)
  have hz : w.heap.size + 1 < w'.heap.size := by have := hb.size; simp at this; omega
  clear hb hB2
  have HBW := Lib.hid hBW
  clear hBW
  go_wp2
  refine bodyPost_ret (v := .tuple #[.agg #[.int .i64 0, .int .i64 0, .int .i64 0, .int .i64 0, .int .i64 0], .bool false]) (by simp [results, Tryd.results50, go_sem, c0, c1, c2, c3, c4, hz]) rfl ⟨rfl, ?_⟩
  have := HBW.out
  go_grown
 ·obtain ⟨⟨a1, a2⟩, ⟨a3, a4⟩, ⟨a5, a6⟩, ⟨a7, a8⟩, a9, a10⟩ := Lv.right_bd hr
  simp only at a1 a2 a3 a4 a5 a6 a7 a8 a9 a10
  have hn : n < 0 \/ 100 - b < n := by
   rw [hr] at h
   simp only [true_and] at h
   omega
  clear h a1 a2 a3 a4 a5 a6 a7 a8
  rcases hn with hn | hn
  ·go_enter Tryd.func50, Tryd.ntmps50
   go_wp2_with fail
   refine (zcn _ _ _ _ _ _).mono ?_
   rintro e w' ⟨rfl, hb⟩
   have hB2 := (Blk.new _ _ _).bel hb
   rw [World.size_alloc] at hB2
   obtain ⟨c0, c1, c2, c3, c4, cf⟩ := hB2.cells5
   have hBW := zfn (B := w.heap.size) (a := w) (by go_grown) hb (by simp; omega)
   have hz : w.heap.size + 1 < w'.heap.size := by have := hb.size; simp at this; omega
   clear hb hB2
   have HBW := Lib.hid hBW
   clear hBW
   go_wp2
   refine bodyPost_ret (v := .tuple #[.agg #[.int .i64 0, .int .i64 0, .int .i64 0, .int .i64 0, .int .i64 0], .bool false]) (by simp [results, Tryd.results50, go_sem, c0, c1, c2, c3, c4, hz]) rfl ⟨rfl, ?_⟩
   have := HBW.out
   go_grown
  ·have hn0 : ¬ n < 0 := by omega
   go_enter Tryd.func50, Tryd.ntmps50
   go_wp2_with fail
   refine (zcn _ _ _ _ _ _).mono ?_
   rintro e w' ⟨rfl, hb⟩
   have hB1 := ((Blk.new _ _ _).alloc _).bel hb
   have hB2 := (Blk.new _ _ _).bel hb
   rw [World.size_alloc] at hB2
   obtain ⟨c0, c1, c2, c3, c4, cf⟩ := hB2.cells5
   have d0 := hB1.cell 0
   have hBW := zfn (B := w.heap.size) (a := w) (by go_grown) hb (by simp; omega)
   have hz : w.heap.size + 1 < w'.heap.size := by have := hb.size; simp at this; omega
   clear hb hB2 hB1
   have HBW := Lib.hid hBW
   clear hBW
   go_wp2
   refine bodyPost_ret (v := .tuple #[.agg #[.int .i64 0, .int .i64 0, .int .i64 0, .int .i64 0, .int .i64 0], .bool false]) (by simp [results, Tryd.results50, go_sem, c0, c1, c2, c3, c4, hz]) rfl ⟨rfl, ?_⟩
   have := HBW.out
   go_grown
set_option maxHeartbeats 2000000 in
theorem zaa3 (b p0 p1 p2 p3 n : Int) (w : World) (hr : Lv.right ⟨b, p0, p1, p2, p3⟩ = true) (hn0 : 0 <= n) (hn1 : n <= 100 - b) :
  Calls Tryd.prog 50 #[.agg #[.int .i64 b, .int .i64 p0, .int .i64 p1, .int .i64 p2, .int .i64 p3], .int .i64 n] w fun e w' =>
   e = .returned (.tuple #[.agg #[.int .i64 (b + n), .int .i64 (Lv.up1 p0 n), .int .i64 (Lv.up1 p1 n), .int .i64 (Lv.up1 p2 n), .int .i64 (Lv.up1 p3 n)], .bool true]) /\ Below w.heap.size w w' := by
 obtain ⟨⟨a1, a2⟩, ⟨a3, a4⟩, ⟨a5, a6⟩, ⟨a7, a8⟩, a9, a10⟩ := Lv.right_bd hr
 simp only at a1 a2 a3 a4 a5 a6 a7 a8 a9 a10
 go_enter Tryd.func50, Tryd.ntmps50
 go_wp2_with fail
 refine (zcn _ _ _ _ _ _).mono ?_
 rintro e w1 ⟨rfl, hb⟩
 have hB1 := ((Blk.new _ _ _).alloc _).bel hb
 have hB2 := (Blk.new _ _ _).bel hb
 rw [World.size_alloc] at hB2
 obtain ⟨d0, d1, d2, d3, d4, df⟩ := hB1.cells5
 have hBW := zfn (B := w.heap.size) (a := w) (by go_grown) hb (by simp; omega)
 have hz : w.heap.size + 1 < w1.heap.size := by have := hb.size; simp at this; omega
 clear hb
 have HBW := Lib.hid hBW
 have HB1 := Lib.hid hB1
 have HB2 := Lib.hid hB2
 clear hBW hB1 hB2
 go_wp2
 go_loopw [6, 27] (fun _ i wr => ∃ k : Nat, k <= 4 /\ i = .int .i64 k /\ Blk wr w.heap.size 24 #[.int .i64 (b + n), .int .i64 (if 0 < k then Lv.up1 p0 n else p0), .int .i64 (if 1 < k then Lv.up1 p1 n else p1), .int .i64 (if 2 < k then Lv.up1 p2 n else p2), .int .i64 (if 3 < k then Lv.up1 p3 n else p3)] /\
     Blk wr (w.heap.size + 1) 24 #[.int .i64 0, .int .i64 0, .int .i64 0, .int .i64 0, .int .i64 0] /\ Below w.heap.size w wr) (fun _ i _ => 4 - (intOf i).toNat)
 case atStart =>
  refine ⟨0, by omega, rfl, HB1.out.set_ 0 _, HB2.out.far (by simp) _, ?_⟩
  have := HBW.out
  go_grown
 case round =>
  clear d0 d1 d2 d3 d4 df
  obtain ⟨k, hk, rfl, hB1, hB2, hbw⟩ := hrel
  obtain ⟨d0, d1, d2, d3, d4, df⟩ := hB1.cells5
  have hz2 : w.heap.size + 1 < wr.heap.size := hB2.lt
  have HBr := Lib.hid hbw
  have HB1r := Lib.hid hB1
  have HB2r := Lib.hid hB2
  clear hbw hB1 hB2 hr
  match k, hk with
  | 0, _ =>
   simp only [Nat.lt_irrefl, if_false, if_true, Nat.not_lt_zero, show (0 < 4) = True by simp, show (0 < 1) = True by simp, show (0 < 2) = True by simp, show (0 < 3) = True by simp, show (1 < 2) = True by simp, show (1 < 3) = True by simp, show (2 < 3) = True by simp, show (2 < 1) = False by simp, show (3 < 1) = False by simp, show (3 < 2) = False by simp] at d0 d1 d2 d3 d4
   by_cases hp : p0 = -1
   ·go_wp2
    refine ⟨⟨1, by omega, rfl, ?_, HB2r.out, HBr.out⟩, by simp [intOf]⟩
    simpa [zl4 hp] using HB1r.out
   ·go_wp2
    refine ⟨⟨1, by omega, rfl, ?_, HB2r.out.far (by simp) _, ?_⟩, by simp [intOf]⟩
    ·simpa [zpd hp] using HB1r.out.set_ 1 (.int .i64 (p0 + n))
    ·have := HBr.out
     go_grown
  | 1, _ =>
   simp only [Nat.lt_irrefl, if_false, if_true, Nat.not_lt_zero, show (1 < 4) = True by simp, show (0 < 1) = True by simp, show (0 < 2) = True by simp, show (0 < 3) = True by simp, show (1 < 2) = True by simp, show (1 < 3) = True by simp, show (2 < 3) = True by simp, show (2 < 1) = False by simp, show (3 < 1) = False by simp, show (3 < 2) = False by simp] at d0 d1 d2 d3 d4
   by_cases hp : p1 = -1
   ·go_wp2
    refine ⟨⟨2, by omega, rfl, ?_, HB2r.out, HBr.out⟩, by simp [intOf]⟩
    simpa [zl4 hp] using HB1r.out
   ·go_wp2
    refine ⟨⟨2, by omega, rfl, ?_, HB2r.out.far (by simp) _, ?_⟩, by simp [intOf]⟩
    ·simpa [zpd hp] using HB1r.out.set_ 2 (.int .i64 (p1 + n))
    ·have := HBr.out
     go_grown
  | 2, _ =>
   simp only [Nat.lt_irrefl, if_false, if_true, Nat.not_lt_zero, show (2 < 4) = True by simp, show (0 < 1) = True by simp, show (0 < 2) = True by simp, show (0 < 3) = True by simp, show (1 < 2) = True by simp, show (1 < 3) = True by simp, show (2 < 3) = True by simp, show (2 < 1) = False by simp, show (3 < 1) = False by simp, show (3 < 2) = False by simp] at d0 d1 d2 d3 d4
   by_cases hp : p2 = -1
   ·go_wp2
    refine ⟨⟨3, by omega, rfl, ?_, HB2r.out, HBr.out⟩, by simp [intOf]⟩
    simpa [zl4 hp] using HB1r.out
   ·go_wp2
    refine ⟨⟨3, by omega, rfl, ?_, HB2r.out.far (by simp) _, ?_⟩, by simp [intOf]⟩
    ·simpa [zpd hp] using HB1r.out.set_ 3 (.int .i64 (p2 + n))
    ·have := HBr.out
     go_grown
  | 3, _ =>
   simp only [Nat.lt_irrefl, if_false, if_true, Nat.not_lt_zero, show (3 < 4) = True by simp, show (0 < 1) = True by simp, show (0 < 2) = True by simp, show (0 < 3) = True by simp, show (1 < 2) = True by simp, show (1 < 3) = True by simp, show (2 < 3) = True by simp, show (2 < 1) = False by simp, show (3 < 1) = False by simp, show (3 < 2) = False by simp] at d0 d1 d2 d3 d4
   by_cases hp : p3 = -1
   ·go_wp2
    refine ⟨⟨4, by omega, rfl, ?_, HB2r.out, HBr.out⟩, by simp [intOf]⟩
    simpa [zl4 hp] using HB1r.out
   ·go_wp2
    refine ⟨⟨4, by omega, rfl, ?_, HB2r.out.far (by simp) _, ?_⟩, by simp [intOf]⟩
    ·simpa [zpd hp] using HB1r.out.set_ 4 (.int .i64 (p3 + n))
    ·have := HBr.out
     go_grown
  | 4, _ =>
   simp only [if_true, show (0 < 4) = True by simp, show (1 < 4) = True by simp, show (2 < 4) = True by simp, show (3 < 4) = True by simp] at d0 d1 d2 d3 d4
   obtain ⟨f0, f1, f2, f3, f4, ff⟩ := HB2r.out.cells5
   go_wp2
   refine bodyPost_ret (v := .tuple #[.agg #[.int .i64 (b + n), .int .i64 (Lv.up1 p0 n), .int .i64 (Lv.up1 p1 n), .int .i64 (Lv.up1 p2 n), .int .i64 (Lv.up1 p3 n)], .bool true]) (by simp [results, Tryd.results50, go_sem, f0, f1, f2, f3, f4, hz2]) rfl ⟨rfl, ?_⟩
   have := HBr.out
   go_grown
  | k + 5, h => omega
theorem zaaw (b p0 p1 p2 p3 n : Int) (w : World) :
  Calls Tryd.prog 50 #[.agg #[.int .i64 b, .int .i64 p0, .int .i64 p1, .int .i64 p2, .int .i64 p3], .int .i64 n] w fun e w' =>
   e = .returned (.tuple #[(Lv.up ⟨b, p0, p1, p2, p3⟩ n).1.val, .bool (Lv.up ⟨b, p0, p1, p2, p3⟩ n).2]) /\ Below w.heap.size w w' := by
 by_cases h : Lv.right ⟨b, p0, p1, p2, p3⟩ = true /\ 0 <= n /\ n <= 100 - b
 ·have e : Lv.up ⟨b, p0, p1, p2, p3⟩ n = (⟨b + n, Lv.up1 p0 n, Lv.up1 p1 n, Lv.up1 p2 n, Lv.up1 p3 n⟩, true) := by unfold Lv.up; rw [if_pos h]
  rw [e]
  exact zaa3 b p0 p1 p2 p3 n w h.1 h.2.1 h.2.2
 ·have e : Lv.up ⟨b, p0, p1, p2, p3⟩ n = (⟨0, 0, 0, 0, 0⟩, false) := by unfold Lv.up; rw [if_neg h]
  rw [e]
  exact zaa9 b p0 p1 p2 p3 n w h
end Go.Proofs.YtmkpiekbpakigaaDoor
end
section
set_option linter.unusedVariables false
set_option linter.unusedSimpArgs false
namespace Go.Proofs.YtmkpiekbpakigaaDoor
open Go.RowKit Go.Proofs.Base Go.Proofs.Mono
def Lv.p (l : Lv) : Nat -> Int | 0 => l.p0 | 1 => l.p1 | 2 => l.p2 | _ => l.p3
end Go.Proofs.YtmkpiekbpakigaaDoor
end
