/- What the claim needs of Base, Lv, Mono, Lv3, Lv4, Lv2, Lv5, Lv6, Lv8, Lv11, Own, Own2, SymA, SymB, in one text. -/
import Derived.WalkKit
import Derived.WalkSpells
import Derived.WalkLawsBesides
import Derived.Laws.StructEq
import Derived.RowKit3
import Derived.Handy
import Derived.Lib.Hide
import Derived.Deep.QuietTactic
import Derived.BigQuiet
import Derived.Deep.RegionHeld3
import Derived.Deep.DeepMust
import Derived.Deep.DeepFit
import Derived.Test.YtmkpiekbpakigaaGreatDoorRows
import Derived.Test.YtmkpiekbpakigaaGreatDoorShelf
import Derived.Lib.AppendIntMem
import Derived.Lib.ItoaLen
import Derived.WalkSmall
import Derived.Lib.LaidTab
import Derived.Laws.AppendOwnNone
import Derived.Test.YtmkpiekbpakigaaGreatDoorCards
import Derived.Test.YtmkpiekbpakigaaGreatDoorTie
import Derived.ProofKit
import Derived.OpenShut
import Derived.Carry
import Derived.Deep.DeepHandedRow
import Derived.LaidSub
section
namespace Go.Proofs.Base
open Go.RowKit
/-- Block g holds these cells, of type t, none frozen. -/
def Blk (w : World) (g : Nat) (t : TypeId) (cs : Array Value) : Prop := w.heap[g]? = some (.cells cs t (0, 0))
section
variable {w w' : World} {g : Nat} {t : TypeId} {cs : Array Value}
theorem Blk.lt (h : Blk w g t cs) : g < w.heap.size := by
  unfold Blk at h
  exact (Array.getElem?_eq_some_iff.1 h).1
theorem Blk.cell (h : Blk w g t cs) (i : Nat) : w.cell? ⟨g, i, none⟩ = cs[i]? := cell_of_row w g i cs t (0, 0) h
theorem Blk.frozen (h : Blk w g t cs) (i : Nat) : w.frozen? ⟨g, i, none⟩ = false := by
  unfold Blk at h
  simp [World.frozen?, h]
theorem Blk.new (w : World) (t : TypeId) (cs : Array Value) : Blk (w.alloc (.cells cs t)) w.heap.size t cs := by
  show (w.heap.push _)[w.heap.size]? = _
  simp
theorem Blk.drew (h : Blk w g t cs) : Blk w.drew g t cs := h
theorem Blk.alloc (h : Blk w g t cs) (o : Obj) : Blk (w.alloc o) g t cs := (Below.heap_alloc w o g h.lt).trans h
theorem Blk.set_ (h : Blk w g t cs) (i : Nat) (u : Value) : Blk (w.setCell ⟨g, i, none⟩ u) g t (cs.setIfInBounds i u) := by
  unfold Blk at *
  simp [World.setCell, Array.getElem?_modify, h]
theorem Blk.far (h : Blk w g t cs) {p : Addr} (hp : g ≠ p.block) (u : Value) : Blk (w.setCell p u) g t cs := (Below.heap_setCell w p u g hp).trans h
theorem Blk.below {B : Nat} (h : Blk w g t cs) (hb : Below B w w') (hg : g < B) : Blk w' g t cs := (hb.block g hg).trans h
theorem Blk.bel (h : Blk w g t cs) (hb : Below w.heap.size w w') : Blk w' g t cs := h.below hb h.lt
end
theorem own_heap {w w1 : World} {base : Nat} {e : TypeId} {size n : Nat} {v : Value} {xs : List Value} (h : w.ownsRow base e size v n xs) (hm : ∀ k, v.ownBlock = some k → w1.heap[k]? = w.heap[k]?) : w1.ownsRow base e size v n xs := by
  obtain ⟨h1, h2⟩ := h
  refine ⟨h1, ?_⟩
  rcases h2 with h2 | ⟨g, cap, cur, rfl, hg, hh, r⟩
  · exact .inl h2
  · exact .inr ⟨g, cap, cur, rfl, hg, (hm g (by simp [Value.ownBlock])).trans hh, r⟩
theorem own_bel {w w1 : World} {base : Nat} {e : TypeId} {size n : Nat} {v : Value} {xs : List Value} (h : w.ownsRow base e size v n xs) (hb : Below w.heap.size w w1) : w1.ownsRow base e size v n xs :=
  own_heap h (fun k hk => hb.block k (h.lt k hk).2)
theorem bcell {W w1 : World} (hb : Below W.heap.size W w1) : (∀ b o, b < W.heap.size → w1.cell? ⟨b, o, none⟩ = W.cell? ⟨b, o, none⟩) ∧ (∀ b o, b < W.heap.size → w1.frozen? ⟨b, o, none⟩ = W.frozen? ⟨b, o, none⟩) :=
  ⟨fun b o h => hb.cell (p := ⟨b, o, none⟩) h, fun b o h => hb.frozen (p := ⟨b, o, none⟩) h⟩
section
variable {w : World} {g : Nat} {t : TypeId} {c0 c1 c2 c3 c4 : Value}
theorem Blk.cells5 (h : Blk w g t #[c0, c1, c2, c3, c4]) : w.cell? ⟨g, 0, none⟩ = some c0 ∧ w.cell? ⟨g, 1, none⟩ = some c1 ∧ w.cell? ⟨g, 2, none⟩ = some c2 ∧ w.cell? ⟨g, 3, none⟩ = some c3 ∧ w.cell? ⟨g, 4, none⟩ = some c4 ∧ ∀ i, w.frozen? ⟨g, i, none⟩ = false :=
  ⟨h.cell 0, h.cell 1, h.cell 2, h.cell 3, h.cell 4, h.frozen⟩
end
end Go.Proofs.Base
end
section
namespace Go.Proofs.YtmkpiekbpakigaaGreatDoor
open Go.RowKit Go.Proofs.Base
structure Lv where
  b : Int
  p0 : Int
  p1 : Int
  p2 : Int
  p3 : Int
  deriving DecidableEq
def Lv.val (l : Lv) : Value := .agg #[.int .i64 l.b, .int .i64 l.p0, .int .i64 l.p1, .int .i64 l.p2, .int .i64 l.p3]
theorem ix (w : World) (p0 p1 p2 p3 : Int) : 
  (Instr.index 100 (.agg #[.int .i64 p0, .int .i64 p1, .int .i64 p2, .int .i64 p3]) (.int .i64 0)).run Tryz.prog w = .ok (.int .i64 p0) w ∧
  (Instr.index 100 (.agg #[.int .i64 p0, .int .i64 p1, .int .i64 p2, .int .i64 p3]) (.int .i64 1)).run Tryz.prog w = .ok (.int .i64 p1) w ∧
  (Instr.index 100 (.agg #[.int .i64 p0, .int .i64 p1, .int .i64 p2, .int .i64 p3]) (.int .i64 2)).run Tryz.prog w = .ok (.int .i64 p2) w ∧
  (Instr.index 100 (.agg #[.int .i64 p0, .int .i64 p1, .int .i64 p2, .int .i64 p3]) (.int .i64 3)).run Tryz.prog w = .ok (.int .i64 p3) w := ⟨by kernel_rfl, by kernel_rfl, by kernel_rfl, by kernel_rfl⟩
def Lv.right (l : Lv) : Bool := decide ((-1 ≤ l.p0 ∧ l.p0 ≤ l.b) ∧ (-1 ≤ l.p1 ∧ l.p1 ≤ l.b) ∧ (-1 ≤ l.p2 ∧ l.p2 ≤ l.b) ∧ (-1 ≤ l.p3 ∧ l.p3 ≤ l.b) ∧ 0 ≤ l.b ∧ l.b ≤ 100)
set_option maxHeartbeats 1000000 in
theorem right_any (b p0 p1 p2 p3 : Int) (w : World) :
    Calls Tryz.prog 125 #[.agg #[.int .i64 b, .int .i64 p0, .int .i64 p1, .int .i64 p2, .int .i64 p3]] w fun e w' => e = .returned (.bool (Lv.right ⟨b, p0, p1, p2, p3⟩)) ∧ Below w.heap.size w w' := by
  have i0 := fun w => (ix w p0 p1 p2 p3).1
  have i1 := fun w => (ix w p0 p1 p2 p3).2.1
  have i2 := fun w => (ix w p0 p1 p2 p3).2.2.1
  have i3 := fun w => (ix w p0 p1 p2 p3).2.2.2
  go_enter Tryz.func125, Tryz.ntmps125
  go_wp2
  go_rounds 5
  all_goals go_ret
  all_goals refine ⟨congrArg (fun b => Ending.returned (.bool b)) ?_, by go_grown⟩
  all_goals unfold Lv.right
  all_goals (rw [Bool.eq_iff_iff]; simp only [decide_eq_true_eq, Bool.false_eq_true, false_iff]; omega)
def Lv.width (l : Lv) : Int := if l.p3 > -1 then 4 else if l.p2 > -1 then 3 else if l.p1 > -1 then 2 else if l.p0 > -1 then 1 else 0
set_option maxHeartbeats 1000000 in
theorem width_any (b p0 p1 p2 p3 : Int) (w : World) :
    Calls Tryz.prog 126 #[.agg #[.int .i64 b, .int .i64 p0, .int .i64 p1, .int .i64 p2, .int .i64 p3]] w fun e w' => e = .returned (.int .i64 (Lv.width ⟨b, p0, p1, p2, p3⟩)) ∧ Below w.heap.size w w' := by
  have i0 := fun w => (ix w p0 p1 p2 p3).1
  have i1 := fun w => (ix w p0 p1 p2 p3).2.1
  have i2 := fun w => (ix w p0 p1 p2 p3).2.2.1
  have i3 := fun w => (ix w p0 p1 p2 p3).2.2.2
  go_enter Tryz.func126, Tryz.ntmps126
  go_wp2
  go_rounds 5
  all_goals go_ret
  all_goals refine ⟨congrArg (fun b => Ending.returned (.int .i64 b)) ?_, by go_grown⟩
  all_goals (simp only [Lv.width]; repeat' split) <;> omega
end Go.Proofs.YtmkpiekbpakigaaGreatDoor
end
section
namespace Go.Proofs.Mono
open Go.RowKit Go.Proofs.Base
/-- What an operation yields: its value and the world behind it meet R. -/
def uponM (P : Program) (R : Value → World → Prop) : Result Next → Prop
  | .ok (.value u) w' => R u w'
  | .ok .skip w' => R undef w'
  | .ok (.enter f args) w' => Calls P f args w' (fun e w'' => ∃ v, e = .returned v ∧ R v w'')
  | .ok (.row row args) w' => Rows P row args w' R
  | _ => False
def yieldsM (P : Program) (o : Oper) (a : Act) (w : World) (R : Value → World → Prop) : Prop := uponM P R ((execOp a.eval o).run P w)
theorem wp_of_yieldsM {P : Program} {o : Oper} {a : Act} {w : World} {R : Value → World → Prop} {K : Act → World → Prop} {Q : Exit → Act → World → Prop}
    (h : yieldsM P o a w R) (hK : ∀ v w', R v w' → K (a.put o.dst v) w') : o.wp P a w K Q := by
  unfold yieldsM at h
  unfold Oper.wp
  generalize (execOp a.eval o).run P w = r at *
  cases r with
  | ok n w' =>
    cases n <;> simp only [uponM] at h <;> simp only [Oper.upon]
    case value u => exact hK _ _ h
    case skip => exact hK _ _ h
    case enter f args => exact h.mono fun e w'' ⟨v, he, hv⟩ => by subst he; exact hK _ _ hv
    case row row args => exact h.mono fun v w'' hv => hK _ _ hv
  | halt x w' => simp only [uponM] at h
/-- The frame behind the first k operations of the text. -/
def putUpto (ops : Array Oper) (a : Act) (vals : Nat → Value) : Nat → Act
  | 0 => a
  | k + 1 => (putUpto ops a vals k).put ((ops[k]?).bind (·.dst)) (vals k)
/-- Which operations come ahead of this one in every order. -/
def bef (ops : Array Oper) (k j : Nat) : Bool := ((Region.before ops).getD k 0).testBit j
/-- What is asked of the region's table: edges go back; no two operations write one slot; whoever reads or writes a slot that another one writes stands in a fixed order to that one; a guard is ahead. -/
def tableOk (ops : Array Oper) : Bool :=
  (List.range ops.size).all (fun k => match ops[k]? with
    | none => false
    | some o => o.after.all (fun e => !Region.binds .any e || decide (e.on < k)) &&
      (List.range ops.size).all (fun j => !bef ops k j || (decide (j < k) && o.after.any (fun e => Region.binds .any e && (e.on == j || bef ops e.on j)))) &&
      (o.looksAt ops).all (fun t => (List.range ops.size).all fun j => j == k || ((ops[j]?).bind (·.dst)) != some t || bef ops k j || bef ops j k) &&
      (List.range ops.size).all (fun j => j == k || ((ops[j]?).bind (·.dst)) != o.dst || o.dst == none)) &&
  Region.noSelect ops
def dstOf (ops : Array Oper) (j : Nat) : Option Tmp := (ops[j]?).bind (·.dst)
section
variable {ops : Array Oper}
structure Table (ops : Array Oper) : Prop where
  back : ∀ {k o}, ops[k]? = some o → ∀ e ∈ o.after, Region.binds .any e = true → e.on < k
  close : ∀ {k o j}, ops[k]? = some o → j < ops.size → bef ops k j = true → j < k ∧ ∃ e ∈ o.after, Region.binds .any e = true ∧ (e.on = j ∨ bef ops e.on j = true)
  looks : ∀ {k o t j}, ops[k]? = some o → t ∈ o.looksAt ops → j < ops.size → j ≠ k → dstOf ops j = some t → bef ops k j = true ∨ bef ops j k = true
  uniq : ∀ {k j t}, k < ops.size → j < ops.size → dstOf ops j = some t → dstOf ops k = some t → j = k
  sel : Region.noSelect ops = true
theorem table_of (h : tableOk ops = true) : Table ops := by
  unfold tableOk at h
  rw [Bool.and_eq_true] at h
  obtain ⟨h, hsel⟩ := h
  have row : ∀ {k o}, ops[k]? = some o → _ := fun {k o} hk => by
    have hlt : k < ops.size := (Array.getElem?_eq_some_iff.1 hk).1
    have := List.all_eq_true.1 h k (List.mem_range.2 hlt)
    rw [hk] at this
    simp only [Bool.and_eq_true] at this
    exact this
  refine ⟨fun {k o} hk e he hbd => ?_, fun {k o j} hk hj hb => ?_, fun {k o t j} hk ht hj hne hd => ?_, fun {k j t} hk hj h1 h2 => ?_, hsel⟩
  · have h1 := (row hk).1.1.1
    have := Array.all_eq_true_iff_forall_mem.1 h1 e he
    simpa [hbd] using this
  · have h1 := List.all_eq_true.1 (row hk).1.1.2 j (List.mem_range.2 hj)
    rw [hb] at h1
    simp only [Bool.not_true, Bool.false_or, Bool.and_eq_true, decide_eq_true_eq] at h1
    obtain ⟨h1, h2⟩ := h1
    rw [Array.any_eq_true'] at h2
    obtain ⟨e, he, h2⟩ := h2
    exact ⟨h1, e, he, by simpa using h2⟩
  · have h1 := List.all_eq_true.1 (List.all_eq_true.1 (row hk).1.2 t ht) j (List.mem_range.2 hj)
    unfold dstOf at hd
    simp only [hd, Bool.or_eq_true, beq_iff_eq, bne_iff_ne, ne_eq, not_true_eq_false, or_false] at h1
    rcases h1 with (h1 | h1) | h1
    · exact absurd h1 hne
    · exact .inl h1
    · exact .inr h1
  · have hk' : ops[k]? = some ops[k] := Array.getElem?_eq_getElem hk
    have h3 := List.all_eq_true.1 (row hk').2 j (List.mem_range.2 hj)
    unfold dstOf at h1 h2
    rw [hk'] at h2
    simp only [Option.bind_some] at h2
    simp only [h1, h2, Bool.or_eq_true, beq_iff_eq, bne_iff_ne, ne_eq, not_true_eq_false, reduceCtorEq, or_false] at h3
    exact h3
theorem slot_put (a : Act) (d : Option Tmp) (v : Value) (t : Tmp) : (a.put d v).tmps[t]? = if d = some t then (if t < a.tmps.size then some v else none) else a.tmps[t]? := by
  cases d with
  | none => simp [Act.put]
  | some d =>
    simp only [Act.put, Option.some.injEq]
    by_cases h : d = t
    · subst h
      rw [if_pos rfl, Array.getElem?_setIfInBounds_self]
    · rw [if_neg h, Array.getElem?_setIfInBounds_ne h]
theorem size_put (a : Act) (d : Option Tmp) (v : Value) : (a.put d v).tmps.size = a.tmps.size := by cases d <;> simp [Act.put]
theorem defers_put (a : Act) (d : Option Tmp) (v : Value) : (a.put d v).defers = a.defers := by cases d <;> rfl
theorem size_upto (a : Act) (vals : Nat → Value) (k : Nat) : (putUpto ops a vals k).tmps.size = a.tmps.size ∧ (putUpto ops a vals k).defers = a.defers := by
  induction k with
  | zero => exact ⟨rfl, rfl⟩
  | succ k ih => exact ⟨(size_put _ _ _).trans ih.1, (defers_put _ _ _).trans ih.2⟩
theorem slot_upto_on (T : Table ops) (a : Act) (vals : Nat → Value) {j : Nat} {t : Tmp} (hd : dstOf ops j = some t) (ht : t < a.tmps.size) : ∀ k, k ≤ ops.size → j < k → (putUpto ops a vals k).tmps[t]? = some (vals j) := by
  intro k
  induction k with
  | zero => intro _ h; omega
  | succ k ih =>
    intro hk hj
    unfold putUpto
    rw [slot_put]
    by_cases h : (ops[k]?).bind (·.dst) = some t
    · have : j = k := T.uniq (by omega) (by omega) hd h
      subst this
      rw [if_pos h, if_pos (by rw [(size_upto a vals _).1]; exact ht)]
    · rw [if_neg h]
      refine ih (by omega) ?_
      rcases Nat.lt_or_eq_of_le (Nat.le_of_lt_succ hj) with h1 | h1
      · exact h1
      · subst h1; exact absurd hd h
theorem slot_upto_off (a : Act) (vals : Nat → Value) {t : Tmp} : ∀ k, (∀ j, j < k → dstOf ops j ≠ some t) → (putUpto ops a vals k).tmps[t]? = a.tmps[t]? := by
  intro k
  induction k with
  | zero => intro _; rfl
  | succ k ih =>
    intro h
    unfold putUpto
    rw [slot_put, if_neg (show ¬ (ops[k]?).bind (·.dst) = some t from h k (by omega))]
    exact ih (fun j hj => h j (by omega))
/-- The frame at some time: what is listed has its value in its slot; the others' slots are as they were. -/
structure At (ops : Array Oper) (a0 : Act) (vals : Nat → Value) (listed : Array Bool) (a : Act) : Prop where
  size : a.tmps.size = a0.tmps.size
  defers : a.defers = a0.defers
  on : ∀ {j t}, j < ops.size → listed.getD j false = true → dstOf ops j = some t → t < a0.tmps.size → a.tmps[t]? = some (vals j)
  off : ∀ {t}, (∀ j, j < ops.size → dstOf ops j = some t → listed.getD j false = false) → a.tmps[t]? = a0.tmps[t]?
theorem eval_slot {a b : Act} {t : Tmp} (h : a.tmps[t]? = b.tmps[t]?) : a.eval (.tmp t) = b.eval (.tmp t) := by
  simp only [Act.eval, Array.getD_eq_getD_getElem?, h]
/-- What operation k looks at is the same in the text's order and at the time when it comes up. -/
theorem same_looks (T : Table ops) {a0 a : Act} {vals : Nat → Value} {listed : Array Bool} {k : Nat} {o : Oper} (hk : ops[k]? = some o) (hA : At ops a0 vals listed a)
    (hun : listed.getD k false = false) (hb : ∀ j, j < ops.size → bef ops k j = true → listed.getD j false = true) (hc : ∀ j, j < ops.size → bef ops j k = true → listed.getD j false = false)
    {t : Tmp} (ht : t ∈ o.looksAt ops) : a.tmps[t]? = (putUpto ops a0 vals k).tmps[t]? := by
  have hlt : k < ops.size := (Array.getElem?_eq_some_iff.1 hk).1
  by_cases hex : ∃ j, j < ops.size ∧ j ≠ k ∧ dstOf ops j = some t
  · obtain ⟨j, hj, hne, hd⟩ := hex
    rcases T.looks hk ht hj hne hd with h1 | h1
    · have hjk := (T.close hk hj h1).1
      by_cases hs : t < a0.tmps.size
      · rw [hA.on hj (hb j hj h1) hd hs, slot_upto_on T a0 vals hd hs k (by omega) hjk]
      · rw [Array.getElem?_eq_none (show a.tmps.size ≤ t from Nat.le_of_not_lt (by rw [hA.size]; exact hs)), Array.getElem?_eq_none (show (putUpto ops a0 vals k).tmps.size ≤ t from Nat.le_of_not_lt (by rw [(size_upto a0 vals k).1]; exact hs))]
    · have hoj : ops[j]? = some ops[j] := Array.getElem?_eq_getElem hj
      have hkj := (T.close hoj hlt h1).1
      rw [hA.off (fun i hi hdi => by rw [T.uniq hj hi hdi hd]; exact hc j hj h1), slot_upto_off a0 vals k (fun i hi hdi => by have := T.uniq hj (by omega) hdi hd; omega)]
  · have hno : ∀ j, j < ops.size → j ≠ k → dstOf ops j ≠ some t := fun j hj hne hd => hex ⟨j, hj, hne, hd⟩
    rw [hA.off (fun i hi hdi => by
      by_cases hik : i = k
      · rw [hik]; exact hun
      · exact absurd hdi (hno i hi hik)), slot_upto_off a0 vals k (fun i hi => hno i (by omega) (by omega))]
theorem execOp_same (o : Oper) (hs : ∀ cs b, o.op ≠ .select cs b) {a b : Act} (h : ∀ t ∈ o.looksAt ops, a.tmps[t]? = b.tmps[t]?) : execOp a.eval o = execOp b.eval o :=
  execOp_congr o hs fun x hx => by
    cases x with
    | tmp t => exact eval_slot (h t (List.mem_append_left _ (List.mem_filterMap.2 ⟨.tmp t, by simpa using hx, rfl⟩)))
    | _ => rfl
theorem wanted_same (o : Oper) {a b : Act} (h : ∀ t ∈ o.looksAt ops, a.tmps[t]? = b.tmps[t]?) : Region.wanted o (yielded ops a.tmps) = Region.wanted o (yielded ops b.tmps) := by
  unfold Region.wanted
  cases hg : o.guard with
  | none => rfl
  | some gw =>
    obtain ⟨g, want⟩ := gw
    have hy : yielded ops a.tmps g = yielded ops b.tmps g := by
      unfold yielded
      cases ht : (ops[g]?).bind (·.dst) with
      | none => rfl
      | some t => simp only [Option.bind_some]; rw [h t (by simp [Oper.looksAt, hg, ht])]
    simp only [hy]
section
variable {P : Program}
theorem at_put (T : Table ops) {a0 a : Act} {vals : Nat → Value} {listed : Array Bool} {i : Nat} (hi : i < ops.size) (hsz : listed.size = ops.size) (hun : listed.getD i false = false) (hA : At ops a0 vals listed a) (v : Value) :
    At ops a0 (fun j => if j = i then v else vals j) (listed.setIfInBounds i true) (a.put (dstOf ops i) v) := by
  have hl : ∀ j d, (listed.setIfInBounds i true).getD j d = if j = i then true else listed.getD j d := by
    intro j d
    by_cases h : j = i
    · subst h
      rw [if_pos rfl]
      simp [Array.getD_eq_getD_getElem?, hsz, hi]
    · rw [if_neg h, getD_set_ne d (Ne.symm h)]
  refine ⟨(size_put _ _ _).trans hA.size, (defers_put _ _ _).trans hA.defers, fun {j t} hj hlj hd ht => ?_, fun {t} h => ?_⟩
  · rw [slot_put]
    by_cases hji : j = i
    · subst hji
      rw [if_pos hd, if_pos (by rw [hA.size]; exact ht), if_pos rfl]
    · rw [if_neg (fun e => hji (T.uniq hi hj hd e)), if_neg hji]
      rw [hl, if_neg hji] at hlj
      exact hA.on hj hlj hd ht
  · rw [slot_put]
    have h1 : dstOf ops i ≠ some t := fun e => by
      have := h i hi e
      rw [hl, if_pos rfl] at this
      cases this
    rw [if_neg h1]
    refine hA.off (fun j hj hd => ?_)
    have := h j hj hd
    rw [hl, if_neg (fun e : j = i => h1 (e ▸ hd))] at this
    exact this
/-- With all before m listed and nothing else, the frame is the text's. -/
theorem at_full (T : Table ops) {a0 a : Act} {vals : Nat → Value} {listed : Array Bool} {m : Nat} (hm : m ≤ ops.size) (hA : At ops a0 vals listed a) (hpre : ∀ j, j < ops.size → listed.getD j false = true → j < m) (hall : ∀ k, k < m → listed.getD k false = true) : a = putUpto ops a0 vals m := by
  have htm : a.tmps = (putUpto ops a0 vals m).tmps := by
    apply Array.ext_getElem?
    intro t
    by_cases hex : ∃ j, j < m ∧ dstOf ops j = some t
    · obtain ⟨j, hj, hd⟩ := hex
      by_cases hs : t < a0.tmps.size
      · rw [hA.on (by omega) (hall j hj) hd hs, slot_upto_on T a0 vals hd hs _ hm hj]
      · rw [Array.getElem?_eq_none (show a.tmps.size ≤ t by rw [hA.size]; omega), Array.getElem?_eq_none (show (putUpto ops a0 vals m).tmps.size ≤ t by rw [(size_upto a0 vals _).1]; omega)]
    · rw [hA.off (fun j hj hd => by
        cases hl : listed.getD j false with
        | false => rfl
        | true => exact absurd ⟨j, hpre j hj hl, hd⟩ hex), slot_upto_off a0 vals _ (fun j hj hd => hex ⟨j, hj, hd⟩)]
  have hde := hA.defers.trans (size_upto (ops := ops) a0 vals m).2.symm
  cases a
  cases h : putUpto ops a0 vals m
  rw [h] at htm hde
  simp only at htm hde
  rw [htm, hde]
/-- Operations of which each waits for all before it come up one behind the other. -/
theorem any_tail (T : Table ops) {Q : Exit → Act → World → Prop} (m : Nat) (htail : ∀ k, m ≤ k → k < ops.size → ∀ j, j < k → bef ops k j = true) : ∀ (tail : List Oper) (k : Nat) (a : Act) (w : World), (∀ j, j < tail.length → tail[j]? = ops[k + j]?) → m ≤ k → k + tail.length = ops.size → wpList P ops Q tail a w →
    ∀ (fuel : Nat) (listed : Array Bool), listed.size = ops.size → (∀ j, j < ops.size → (listed.getD j false = true ↔ j < k)) → listed.toList.count false ≤ fuel → wpAny P .any ops Q fuel listed a w := by
  intro tail
  induction tail with
  | nil =>
    intro k a w _ _ hk h fuel listed hsz hl _
    have hr : Region.ready .any ops listed = [] := by
      refine List.eq_nil_iff_forall_not_mem.2 (fun i hi => ?_)
      obtain ⟨h1, o, ho, _⟩ := mem_ready.1 hi
      have hlt : i < ops.size := (Array.getElem?_eq_some_iff.1 ho).1
      have h2 := (hl i hlt).2 (by simp at hk; omega)
      have h3 : listed.getD i false = false := by simpa [Array.getD_eq_getD_getElem?, hsz, hlt] using h1
      rw [h3] at h2
      cases h2
    cases fuel with
    | zero => exact ⟨hr, h⟩
    | succ fuel => exact ⟨fun _ => h, fun i hi => by rw [hr] at hi; cases hi⟩
  | cons o tail ih =>
    intro k a w hidx hmk hk h fuel listed hsz hl hcnt
    simp only [List.length_cons] at hk
    have hkn : k < ops.size := by omega
    have ho : ops[k]? = some o := by have := hidx 0 (by simp); simpa using this.symm
    have hun : listed.getD k false = false := by
      cases hu : listed.getD k false with
      | false => rfl
      | true => have := (hl k hkn).1 hu; omega
    have h2 : listed[k]'(by omega) = false := by simpa [Array.getD_eq_getD_getElem?, hsz, hkn] using hun
    have hp : 0 < listed.toList.count false := List.count_pos_iff.2 (by rw [← h2]; exact Array.getElem_mem_toList (h := by omega))
    cases fuel with
    | zero => omega
    | succ fuel =>
      have hr : k ∈ Region.ready .any ops listed := mem_ready.2 ⟨by simpa [Array.getD_eq_getD_getElem?, hsz, hkn] using hun, o, ho, fun e he hbd => by
        have := T.back ho e he hbd
        exact (hl e.on (by omega)).2 this⟩
      refine ⟨fun h0 => (by rw [h0] at hr; cases hr), fun i hi => ?_⟩
      obtain ⟨h1, oi, hoi, hall⟩ := mem_ready.1 hi
      have hlt : i < ops.size := (Array.getElem?_eq_some_iff.1 hoi).1
      have huni : listed.getD i false = false := by simpa [Array.getD_eq_getD_getElem?, hsz, hlt] using h1
      have hik : i = k := by
        refine Classical.byContradiction (fun hne => ?_)
        have hgt : k < i := by
          rcases Nat.lt_or_ge i k with h3 | h3
          · have := (hl i hlt).2 h3
            rw [huni] at this
            cases this
          · omega
        obtain ⟨_, e, he, hbd, h3⟩ := T.close hoi hkn (htail i (by omega) hlt k hgt)
        have he2 := hall e he hbd
        have hen : e.on < ops.size := by have := T.back hoi e he hbd; omega
        have hek := (hl e.on hen).1 he2
        rcases h3 with h3 | h3
        · omega
        · have := (T.close (Array.getElem?_eq_getElem hen) hkn h3).1
          omega
      subst hik
      have hl2 : ∀ j d, (listed.setIfInBounds i true).getD j d = if j = i then true else listed.getD j d := by
        intro j d
        by_cases h : j = i
        · subst h
          rw [if_pos rfl]
          simp [Array.getD_eq_getD_getElem?, hsz, hlt]
        · rw [if_neg h, getD_set_ne d (Ne.symm h)]
      have hcnt2 : (listed.setIfInBounds i true).toList.count false ≤ fuel := by
        have h3 : (listed.setIfInBounds i true).toList.count false + 1 = listed.toList.count false := by
          rw [Array.toList_setIfInBounds, List.count_set (by simpa using (by omega : i < listed.size))]
          have : listed.toList[i]'(by simpa using (by omega : i < listed.size)) = false := by simpa using h2
          rw [this]
          simp only [beq_self_eq_true, if_true]
          have h5 : (true == false) = false := rfl
          rw [h5]
          simp only [Bool.false_eq_true, if_false]
          omega
        omega
      have next : ∀ a' w', wpList P ops Q tail a' w' → wpAny P .any ops Q fuel (listed.setIfInBounds i true) a' w' := fun a' w' h' =>
        ih (i + 1) a' w' (fun j hj => by
          have := hidx (j + 1) (by simp; omega)
          simp only [List.getElem?_cons_succ] at this
          rw [this]
          congr 1
          omega) (by omega) (by omega) h' fuel _ (by simpa using hsz) (fun j hj => by
            rw [hl2]
            by_cases hji : j = i
            · subst hji; simp
            · rw [if_neg hji, hl j hj]
              omega) hcnt2
      unfold wpOp
      rw [ho]
      simp only
      unfold wpList at h
      by_cases hw : Region.wanted o (yielded ops a.tmps) = true
      · rw [if_pos hw] at h ⊢
        exact h.imp (Oper.wp_mono next) id
      · rw [if_neg hw] at h ⊢
        exact next _ _ h
/-- What is known of an operation's value: the value itself, or a predicate that later worlds keep. -/
inductive Ent where
  | det (v : Value)
  | mem (S : Value → World → Prop)
  | free (v : Value)
def Ent.val : Ent → Value → Value
  | .det v, _ => v
  | .mem _, u => u
  | .free v, _ => v
def Ent.sat : Ent → Value → World → Prop
  | .det v, u, _ => u = v
  | .mem S, u, w => S u w
  | .free v, u, _ => u = v
def Later (w w' : World) : Prop := Below w.heap.size w w'
theorem Later.refl (w : World) : Later w w := Below.refl _ _
theorem Later.trans {a b c : World} (h : Later a b) (k : Later b c) : Later a c := Below.trans h (Below.mono k h.size)
theorem Later.cells {W w1 : World} (h : Later W w1) : (∀ b o, b < W.heap.size → w1.cell? ⟨b, o, none⟩ = W.cell? ⟨b, o, none⟩) ∧ (∀ b o, b < W.heap.size → w1.frozen? ⟨b, o, none⟩ = W.frozen? ⟨b, o, none⟩) := bcell h
/-- What is asked besides of an operation that hangs on nothing. -/
def Ent.pure (P : Program) (ops : Array Oper) (o : Oper) (a : Act) : Ent → Prop
  | .free v => if Region.wanted o (yielded ops a.tmps) = true then ∀ w, (execOp a.eval o).run P w = .ok (.value v) w else undef = v
  | _ => True
def entS (es : List Ent) (k : Nat) (u : Value) (w : World) : Prop := match es[k]? with | some e => e.sat u w | none => True
/-- The last operations (from m on) come up one behind the other, behind all others. -/
def tailOk (ops : Array Oper) (m : Nat) : Bool := (List.range ops.size).all fun k => decide (k < m) || (List.range k).all fun j => bef ops k j
theorem tail_of {m : Nat} (h : tailOk ops m = true) : ∀ k, m ≤ k → k < ops.size → ∀ j, j < k → bef ops k j = true := by
  intro k hmk hk j hj
  have h1 := List.all_eq_true.1 h k (List.mem_range.2 hk)
  rw [Bool.or_eq_true, decide_eq_true_eq] at h1
  rcases h1 with h1 | h1
  · omega
  · exact List.all_eq_true.1 h1 j (List.mem_range.2 hj)
theorem listed_no {n j : Nat} : (Array.replicate n false).getD j false = false := by
  simp [Array.getD_eq_getD_getElem?, Array.getElem?_replicate]
  split <;> simp
section
variable {w0 : World} {C : List Ent → Prop} {R : List Ent → Act → World → Prop} {o : Oper} {rest : List Oper} {F : (Nat → Value) → Act} {es : List Ent}
end
end
end
end Go.Proofs.Mono
end
section
namespace Go.Proofs.YtmkpiekbpakigaaGreatDoor
open Go.RowKit Go.Proofs.Base Go.Proofs.Mono
def mxi (x y : Int) : Int := if y > x then y else x
def Lv.max2 (a l : Lv) : Lv := ⟨mxi a.b l.b, mxi a.p0 l.p0, mxi a.p1 l.p1, mxi a.p2 l.p2, mxi a.p3 l.p3⟩
def Lv.num (n : Int) : Lv := ⟨n, -1, -1, -1, -1⟩
def Lv.maxl (ls : List Lv) : Lv := if ls.all Lv.right then ls.foldl Lv.max2 (Lv.num 0) else Lv.num (-1)
def LvAt (w : World) (b off : Nat) (l : Lv) : Prop := w.cell? ⟨b, off, none⟩ = some (.int .i64 l.b) ∧ w.cell? ⟨b, off + 1, none⟩ = some (.int .i64 l.p0) ∧ w.cell? ⟨b, off + 2, none⟩ = some (.int .i64 l.p1) ∧ w.cell? ⟨b, off + 3, none⟩ = some (.int .i64 l.p2) ∧ w.cell? ⟨b, off + 4, none⟩ = some (.int .i64 l.p3)
def LvRow (w : World) (A : Option Addr) (ls : List Lv) : Prop := ls.length ≤ 9223372036854775807 ∧ (0 < ls.length → ∃ b off, A = some ⟨b, off, none⟩ ∧ ∀ (j : Nat) l, ls[j]? = some l → LvAt w b (off + j * 5) l)
theorem cell_below {w w1 : World} (hb : Below w.heap.size w w1) {a : Addr} {v : Value} (hc : w.cell? a = some v) : w1.cell? a = some v := (hb.cell (World.block_lt_of_cell? w a hc)).trans hc
theorem LvAt.below {w w1 : World} {b off : Nat} {l : Lv} (h : LvAt w b off l) (hb : Below w.heap.size w w1) : LvAt w1 b off l :=
  ⟨cell_below hb h.1, cell_below hb h.2.1, cell_below hb h.2.2.1, cell_below hb h.2.2.2.1, cell_below hb h.2.2.2.2⟩
theorem LvRow.below {w w1 : World} {A : Option Addr} {ls : List Lv} (h : LvRow w A ls) (hb : Below w.heap.size w w1) : LvRow w1 A ls :=
  ⟨h.1, fun hp => let ⟨b, off, e, hc⟩ := h.2 hp; ⟨b, off, e, fun j l hl => (hc j l hl).below hb⟩⟩
end Go.Proofs.YtmkpiekbpakigaaGreatDoor
end
section
set_option linter.unusedVariables false
set_option linter.unusedSimpArgs false
namespace Go.Proofs.YtmkpiekbpakigaaGreatDoor
open Go.RowKit Go.Proofs.Base Go.Proofs.Mono
def Lv.leq (a b : Lv) : Bool := a.right && b.right && decide (Lv.maxl [a, b] = b)
section
variable (a b : Lv) (w : World)
end
end Go.Proofs.YtmkpiekbpakigaaGreatDoor
end
section
set_option linter.unusedVariables false
set_option linter.unusedSimpArgs false
namespace Go.Proofs.YtmkpiekbpakigaaGreatDoor
open Go.RowKit Go.Proofs.Base Go.Proofs.Mono
def Lv.up1 (p n : Int) : Int := if p = -1 then -1 else p + n
def Lv.up (l : Lv) (n : Int) : Lv × Bool :=
  if l.right = true ∧ 0 ≤ n ∧ n ≤ 100 - l.b then (⟨l.b + n, Lv.up1 l.p0 n, Lv.up1 l.p1 n, Lv.up1 l.p2 n, Lv.up1 l.p3 n⟩, true) else (⟨0, 0, 0, 0, 0⟩, false)
end Go.Proofs.YtmkpiekbpakigaaGreatDoor
end
section
set_option linter.unusedVariables false
set_option linter.unusedSimpArgs false
namespace Go.Proofs.YtmkpiekbpakigaaGreatDoor
open Go.RowKit Go.Proofs.Base Go.Proofs.Mono
def mni (x y : Int) : Int := if y < x then y else x
def clampv (v : Int) : Int := mni (mxi v 0) 1048576
def Lv.p (l : Lv) : Nat → Int | 0 => l.p0 | 1 => l.p1 | 2 => l.p2 | _ => l.p3
def Lv.valGo (l : Lv) (vals : List Int) : Nat → Int
  | 0 => l.b
  | k + 1 => if l.p k = -1 then Lv.valGo l vals k else mxi (Lv.valGo l vals k) (clampv (vals.getD k 0) + l.p k)
def Lv.value (l : Lv) (vals : List Int) : Int := if l.right = true then l.valGo vals (min vals.length 4) else 0
def IntRow (w : World) (A : Option Addr) (xs : List Int) : Prop := xs.length ≤ 9223372036854775807 ∧ (0 < xs.length → ∃ b off, A = some ⟨b, off, none⟩ ∧ ∀ (j : Nat) x, xs[j]? = some x → w.cell? ⟨b, off + j, none⟩ = some (.int .i64 x))
theorem IntRow.below {w w1 : World} {A : Option Addr} {xs : List Int} (h : IntRow w A xs) (hb : Below w.heap.size w w1) : IntRow w1 A xs :=
  ⟨h.1, fun hp => let ⟨b, off, e, hc⟩ := h.2 hp; ⟨b, off, e, fun j l hl => cell_below hb (hc j l hl)⟩⟩
end Go.Proofs.YtmkpiekbpakigaaGreatDoor
end
section
set_option linter.unusedVariables false
set_option linter.unusedSimpArgs false
namespace Go.Proofs.YtmkpiekbpakigaaGreatDoor
open Go.RowKit Go.Proofs.Base Go.Proofs.Mono
def Lv.instGo (l : Lv) (bs : List Lv) : Nat → Option (List Lv)
  | 0 => some [Lv.num l.b]
  | k + 1 => match Lv.instGo l bs k, bs[k]? with
    | some ps, some b => if b.right = false then none else if 4 ≤ k ∨ l.p k = -1 then some ps else if (Lv.up b (l.p k)).2 = true then some (ps ++ [(Lv.up b (l.p k)).1]) else none
    | _, _ => none
section
variable {l b u : Lv} {bs ps : List Lv} {k : Nat}
end
def Lv.cells (l : Lv) : List Value := [.int .i64 l.b, .int .i64 l.p0, .int .i64 l.p1, .int .i64 l.p2, .int .i64 l.p3]
def lcells (ls : List Lv) : List Value := ls.flatMap Lv.cells
/-- What the loop keeps. -/
structure InstSt (w : World) (l : Lv) (bs : List Lv) (k : Nat) (v : Value) (wr : World) : Prop where
  go : ∃ ps, l.instGo bs k = some ps ∧ wr.ownsRow (w.heap.size + 2) 102 5 v ps.length (lcells ps)
  me : Blk wr w.heap.size 102 #[.int .i64 l.b, .int .i64 l.p0, .int .i64 l.p1, .int .i64 l.p2, .int .i64 l.p3]
  res : Blk wr (w.heap.size + 1) 102 #[.int .i64 0, .int .i64 0, .int .i64 0, .int .i64 0, .int .i64 0]
  bel : Below w.heap.size w wr
section
variable (l : Lv) (A : Option Addr) (bs : List Lv) (c : Nat) (w : World)
end
end Go.Proofs.YtmkpiekbpakigaaGreatDoor
end
section
set_option linter.unusedVariables false
set_option linter.unusedSimpArgs false
namespace Go.Proofs.YtmkpiekbpakigaaGreatDoor
open Go.RowKit Go.Proofs.Base Go.Proofs.Mono
def Lv.below (a b : Lv) : Prop := a.b ≤ b.b ∧ a.p0 ≤ b.p0 ∧ a.p1 ≤ b.p1 ∧ a.p2 ≤ b.p2 ∧ a.p3 ≤ b.p3
theorem Lv.ext' {a b : Lv} (h : a.b = b.b) (h0 : a.p0 = b.p0) (h1 : a.p1 = b.p1) (h2 : a.p2 = b.p2) (h3 : a.p3 = b.p3) : a = b := by
  cases a; cases b
  simp only at h h0 h1 h2 h3
  subst h h0 h1 h2 h3
  rfl
section
variable (a b c : Lv) (A : Option Addr) (xs : List Int) (w : World)
end
end Go.Proofs.YtmkpiekbpakigaaGreatDoor
end
section
set_option linter.unusedVariables false
set_option linter.unusedSimpArgs false
namespace Go.Proofs.YtmkpiekbpakigaaGreatDoor
open Go.ChangeShapes Go.WideShapes Go.ChangeAt Go.RowKit Go.Proofs.Base
theorem own : ownKnob Tryz.prog.godebug = none := by kernel_rfl
theorem laidOut : laidOutB Tryz.prog = true := by kernel_rfl
section
variable {H : Type} {enc : TypeId × Value → H} {w W W' : World} {base : Nat} {sp : Nat → Bool} {held : Bool}
/-- What a call leaves alone reads behind it as before. -/
theorem trodAll_below {P : Program} (hl : laidOutB P = true) (hb : Below W.heap.size W W') : ∀ {ts : List TypeId} {vs : List Value} {ds : List (DataW H)} {ps : List MemPlace},
    (∀ t ∈ ts, P.readableRec t = true ∧ t < P.types.size) → DataW.TrodAll enc P W 0 (fun _ => true) true ts vs ds ps → (∀ x ∈ ps, x.block < W.heap.size) →
    DataW.TrodAll enc P W' 0 (fun b => decide (b < W.heap.size)) true ts vs ds ps
  | [], [], [], _, _, h, _ => h
  | t :: ts, v :: vs, d :: ds, _, ht, ⟨p, q, h1, h2, e⟩, hlt =>
    have h0 := ht t (List.mem_cons.2 (Or.inl rfl))
    ⟨p, q, Below.trod hl h0.1 h0.2 h1 hb (fun x hx => hlt x (by rw [e]; exact List.mem_append_left _ hx)),
      trodAll_below hl hb (fun t ht' => ht t (List.mem_cons.2 (Or.inr ht'))) h2 (fun x hx => hlt x (by rw [e]; exact List.mem_append_right _ hx)), e⟩
theorem post_true {f : Func} {s : ChangeSpec} {args : Array Value} {ds gs : List (DataW H)} {before : List MemPlace} {b : Nat}
    (hW : DataW.Whole enc Tryz.prog f.params.toList s.vars false W args.toList ds gs before) (hv : s.vars = []) (hr : f.resultTypes = #[b]) (ht : Tryz.prog.underlying b = some .bool)
    (hp : ∀ t ∈ f.params.toList, Tryz.prog.readableRec t = true ∧ t < Tryz.prog.types.size)
    (hs : s.fn H (ds ++ gs) = { results := [.lit (.bool true)], args := ds }) (hb : Below W.heap.size W W') : s.post enc Tryz.prog f false true false false W args (.bool true) W' := by
  have hlt := fun x hx => hW.lt x hx
  have hW' := hW
  obtain ⟨p, q, hA, hV, rfl, hfz, hnd⟩ := hW
  rw [hv] at hV
  obtain ⟨rfl, rfl⟩ := trodVars_none hV
  refine ⟨ds, [], p ++ [], [], p, [], hW', ?_, ?_, ?_, hb.frame _, fun h => by cases h⟩
  · rw [hs, hr]
    exact trodAll_cons_mk (shut_bool ht true) trodAll_mk0
  · rw [hs]
    exact trodAll_below laidOut hb hp hA (fun x hx => hlt x (List.mem_append_left _ hx))
  · rw [hs, hv]
    exact rfl
def Lv.ok (l : Lv) : Prop := (Lit.int .i64 l.b).wf = true ∧ (Lit.int .i64 l.p0).wf = true ∧ (Lit.int .i64 l.p1).wf = true ∧ (Lit.int .i64 l.p2).wf = true ∧ (Lit.int .i64 l.p3).wf = true
def Lv.data (l : Lv) : DataW H := .agg [.lit (.int .i64 l.b), .agg [.lit (.int .i64 l.p0), .lit (.int .i64 l.p1), .lit (.int .i64 l.p2), .lit (.int .i64 l.p3)]]
theorem cells24 : Tryz.prog.cellsOf 102 = 5 := by kernel_rfl
theorem cells22 : Tryz.prog.cellsOf 100 = 4 := by kernel_rfl
theorem cells3 : Tryz.prog.cellsOf 3 = 1 := by kernel_rfl
set_option maxRecDepth 100000 in
/-- Five cells that read as a value of type Level. -/
theorem level_cells {fuel : Nat} {cs : List Value} {x : DataW H × List MemPlace} (h : DataW.trod enc Tryz.prog w base sp held fuel 102 cs = some x) :
    ∃ l : Lv, cs = l.cells ∧ x = (l.data, []) ∧ l.ok := by
  obtain ⟨ys, m, _, hx, hl, hlen, hf⟩ := DataW.trod_struct Tryz.underlying102 h
  match ys, hlen with
  | [y0, y1], _ =>
    have h0 := hf 0 _ rfl
    have h1 := hf 1 _ rfl
    rw [cells24] at hl
    match cs, hl with
    | [c0, c1, c2, c3, c4], _ =>
      simp [cells3, cells22] at h0 h1
      obtain ⟨b, e, rfl, sb⟩ := DataW.trod_int Tryz.underlying3 h0
      obtain ⟨zs, m', _, hz, _, hzl, hg⟩ := DataW.trod_array Tryz.underlying100 h1
      match zs, hzl with
      | [z0, z1, z2, z3], _ =>
        have g0 := hg 0 (by omega)
        have g1 := hg 1 (by omega)
        have g2 := hg 2 (by omega)
        have g3 := hg 3 (by omega)
        simp [cells3] at g0 g1 g2 g3
        obtain ⟨p0, e0, rfl, s0⟩ := DataW.trod_int Tryz.underlying3 g0
        obtain ⟨p1, e1, rfl, s1⟩ := DataW.trod_int Tryz.underlying3 g1
        obtain ⟨p2, e2, rfl, s2⟩ := DataW.trod_int Tryz.underlying3 g2
        obtain ⟨p3, e3, rfl, s3⟩ := DataW.trod_int Tryz.underlying3 g3
        simp only [List.cons.injEq, and_true] at e e0 e1 e2 e3
        subst e e0 e1 e2 e3 hz hx
        exact ⟨⟨b, p0, p1, p2, p3⟩, rfl, by simp [Lv.data], sb, s0, s1, s2, s3⟩
end
/-- A table laid. -/
def setTab (cs : Array Value) : Obj → Obj
  | .cells _ t frozen => .cells cs t frozen
  | o => o
end Go.Proofs.YtmkpiekbpakigaaGreatDoor
end
section
set_option linter.unusedVariables false
set_option linter.unusedSimpArgs false
namespace Go.Proofs.YtmkpiekbpakigaaGreatDoor
open Go.ChangeShapes Go.WideShapes Go.ChangeAt Go.RowKit Go.Proofs.Base
section
variable {H : Type} {enc : TypeId × Value → H} {w : World} {base : Nat} {sp : Nat → Bool} {held : Bool}
theorem choose_list {α : Type} {Q : Nat → α → Prop} : ∀ (n : Nat), (∀ j, j < n → ∃ x, Q j x) → ∃ ls : List α, ls.length = n ∧ ∀ j x, ls[j]? = some x → Q j x
  | 0, _ => ⟨[], rfl, fun j x h => by simp at h⟩
  | n + 1, h => by
    obtain ⟨ls, h1, h2⟩ := choose_list n fun j hj => h j (by omega)
    obtain ⟨x, hx⟩ := h n (by omega)
    refine ⟨ls ++ [x], by simp [h1], fun j y hj => ?_⟩
    by_cases hjn : j < n
    · rw [List.getElem?_append_left (by omega)] at hj
      exact h2 j y hj
    · rw [List.getElem?_append_right (by omega)] at hj
      have : j = n := by
        have := (List.getElem?_eq_some_iff.1 hj).1
        simp at this
        omega
      subst this
      rw [h1, Nat.sub_self] at hj
      cases hj
      exact hx
end
end Go.Proofs.YtmkpiekbpakigaaGreatDoor
end
section
set_option linter.unusedVariables false
set_option linter.unusedSimpArgs false
namespace Go.Proofs.Sym
open Go.RowKit Go.Proofs.Base Go.Proofs.Mono
/-- The first entry under a number. -/
def get {α : Type _} (i : Nat) : List (Nat × α) → Option α
  | [] => none
  | (j, x) :: r => match Nat.beq i j with
    | true => some x
    | false => get i r
theorem get_self {α : Type _} (i : Nat) (x : α) (r : List (Nat × α)) : get i ((i, x) :: r) = some x := by simp [get]
theorem get_ne {α : Type _} {i j : Nat} (h : i ≠ j) (x : α) (r : List (Nat × α)) : get i ((j, x) :: r) = get i r := by
  have : Nat.beq i j = false := by rw [← Bool.not_eq_true, Nat.beq_eq]; exact h
  simp only [get, this]
theorem get_cons {α : Type _} {i j : Nat} {x y : α} {r : List (Nat × α)} (h : get i ((j, x) :: r) = some y) : (i = j ∧ x = y) ∨ (i ≠ j ∧ get i r = some y) := by
  by_cases e : i = j
  · subst e
    rw [get_self] at h
    exact .inl ⟨rfl, Option.some.inj h⟩
  · rw [get_ne e] at h
    exact .inr ⟨e, h⟩
/-- Which block, and which slice, a number of the state stands for. -/
structure Env where
  blk : Nat → Nat
  row : Nat → Option Addr × Nat × Nat
def Env.rv (e : Env) (i : Nat) : Value := .slice (e.row i).1 (e.row i).2.1 (e.row i).2.2
inductive Cap where
  | p (i : Nat)
  | v (x : Value)
/-- A value of one cell: plain, or one that points into own memory. -/
inductive SA where
  | v (x : Value)
  | p (i off : Nat)
  | sl (i off n c : Nat)
  | row (i : Nat)
  | q (i off : Nat)
  | fn (f : FuncId) (fs cs : List Cap)
inductive TV where
  | one (x : SA)
  | agg (xs : List SA)
inductive SV where
  | one (x : SA)
  | agg (xs : List SA)
  | tup (xs : List TV)
/-- A block of own memory: gone, known whole, or a row that may have room behind it. -/
inductive LB where
  | dead
  | cells (t : TypeId) (cs : List SA)
  | own (E : TypeId) (size n : Nat) (xs : List Value)
structure St where
  s : List (Nat × SV)
  m : List (Nat × LB)
  k : Nat
  f : List (World → Prop)
  b : Nat := 0
def Cap.real (e : Env) : Cap → Value
  | .p i => .pointer (some ⟨e.blk i, 0, none⟩)
  | .v x => x
def SA.real (e : Env) : SA → Value
  | .v x => x
  | .p i o => .pointer (some ⟨e.blk i, o, none⟩)
  | .sl i o n c => .slice (some ⟨e.blk i, o, none⟩) n c
  | .row i => e.rv i
  | .q i o => .pointer ((e.row i).1.map fun a => ⟨a.block, o, none⟩)
  | .fn f fs cs => .func (.func f) (fs.map (Cap.real e)).toArray (cs.map (Cap.real e)).toArray
def reals (e : Env) (xs : List SA) : List Value := xs.map (SA.real e)
def TV.real (e : Env) : TV → Value
  | .one x => x.real e
  | .agg xs => .agg (reals e xs).toArray
def SV.real (e : Env) : SV → Value
  | .one x => x.real e
  | .agg xs => .agg (reals e xs).toArray
  | .tup xs => .tuple (xs.map (TV.real e)).toArray
def Cap.lt (k : Nat) : Cap → Prop
  | .p i => i < k
  | .v _ => True
/-- One cell, of numbers below k. -/
def SA.lt (k : Nat) : SA → Prop
  | .v x => x.oneCell' = true
  | .p i _ | .sl i _ _ _ | .row i | .q i _ => i < k
  | .fn _ fs cs => (∀ c ∈ fs, c.lt k) ∧ ∀ c ∈ cs, c.lt k
def SA.lt0 (k : Nat) : SA → Prop
  | .v _ => True
  | x => x.lt k
def TV.lt (k : Nat) : TV → Prop
  | .one x => x.lt0 k
  | .agg xs => ∀ x ∈ xs, x.lt k
def SV.lt (k : Nat) : SV → Prop
  | .one x => x.lt0 k
  | .agg xs => ∀ x ∈ xs, x.lt k
  | .tup xs => ∀ x ∈ xs, x.lt k
def LB.lt (k : Nat) : LB → Prop
  | .cells _ cs => ∀ c ∈ cs, c.lt k
  | _ => True
/-- The same below a number. -/
def Env.eqTo (k : Nat) (e e' : Env) : Prop := ∀ i, i < k → e'.blk i = e.blk i ∧ e'.row i = e.row i
theorem Env.eqTo.refl (k : Nat) (e : Env) : e.eqTo k e := fun _ _ => ⟨rfl, rfl⟩
theorem Env.eqTo.trans {k : Nat} {a b c : Env} (h : a.eqTo k b) (h' : b.eqTo k c) : a.eqTo k c := fun i hi => ⟨(h' i hi).1.trans (h i hi).1, (h' i hi).2.trans (h i hi).2⟩
theorem Env.eqTo.mono {k k' : Nat} {a b : Env} (h : a.eqTo k b) (hk : k' ≤ k) : a.eqTo k' b := fun i hi => h i (by omega)
theorem Cap.real_eq {k : Nat} {e e' : Env} (h : e.eqTo k e') : ∀ {x : Cap}, x.lt k → x.real e' = x.real e
  | .p i, hx => by simp only [Cap.real, (h i hx).1]
  | .v _, _ => rfl
theorem caps_eq {k : Nat} {e e' : Env} (h : e.eqTo k e') {xs : List Cap} (hx : ∀ x ∈ xs, x.lt k) : xs.map (Cap.real e') = xs.map (Cap.real e) :=
  List.map_congr_left fun x m => Cap.real_eq h (hx x m)
theorem SA.real_eq {k : Nat} {e e' : Env} (h : e.eqTo k e') : ∀ {x : SA}, x.lt k → x.real e' = x.real e
  | .v _, _ => rfl
  | .p i o, hx => by simp only [SA.real, (h i hx).1]
  | .sl i o n c, hx => by simp only [SA.real, (h i hx).1]
  | .row i, hx => by simp only [SA.real, Env.rv, (h i hx).2]
  | .q i o, hx => by simp only [SA.real, (h i hx).2]
  | .fn f fs cs, hx => by simp only [SA.real, caps_eq h hx.1, caps_eq h hx.2]
theorem reals_eq {k : Nat} {e e' : Env} (h : e.eqTo k e') {xs : List SA} (hx : ∀ x ∈ xs, x.lt k) : reals e' xs = reals e xs :=
  List.map_congr_left fun x m => SA.real_eq h (hx x m)
theorem SA.lt0_of {k : Nat} : ∀ {x : SA}, x.lt k → x.lt0 k
  | .v _, _ => trivial
  | .p _ _, hx => hx
  | .sl _ _ _ _, hx => hx
  | .row _, hx => hx
  | .q _ _, hx => hx
  | .fn _ _ _, hx => hx
theorem SA.real_eq0 {k : Nat} {e e' : Env} (h : e.eqTo k e') : ∀ {x : SA}, x.lt0 k → x.real e' = x.real e
  | .v _, _ => rfl
  | .p i o, hx => SA.real_eq (x := .p i o) h hx
  | .sl i o n c, hx => SA.real_eq (x := .sl i o n c) h hx
  | .row i, hx => SA.real_eq (x := .row i) h hx
  | .q i o, hx => SA.real_eq (x := .q i o) h hx
  | .fn f fs cs, hx => SA.real_eq (x := .fn f fs cs) h hx
theorem TV.real_eq {k : Nat} {e e' : Env} (h : e.eqTo k e') : ∀ {x : TV}, x.lt k → x.real e' = x.real e
  | .one x, hx => SA.real_eq0 (x := x) h hx
  | .agg xs, hx => by simp only [TV.real, reals_eq h hx]
theorem SV.real_eq {k : Nat} {e e' : Env} (h : e.eqTo k e') : ∀ {x : SV}, x.lt k → x.real e' = x.real e
  | .one x, hx => SA.real_eq0 (x := x) h hx
  | .agg xs, hx => by simp only [SV.real, reals_eq h hx]
  | .tup xs, hx => by
    simp only [SV.real]
    rw [List.map_congr_left fun x m => TV.real_eq h (hx x m)]
theorem Cap.lt_mono {k k' : Nat} (hk : k ≤ k') : ∀ {x : Cap}, x.lt k → x.lt k'
  | .p i, hx => Nat.lt_of_lt_of_le hx hk
  | .v _, _ => trivial
theorem SA.lt_mono {k k' : Nat} (hk : k ≤ k') : ∀ {x : SA}, x.lt k → x.lt k'
  | .v _, hx => hx
  | .p i o, hx => Nat.lt_of_lt_of_le hx hk
  | .sl i o n c, hx => Nat.lt_of_lt_of_le hx hk
  | .row i, hx => Nat.lt_of_lt_of_le hx hk
  | .q i o, hx => Nat.lt_of_lt_of_le hx hk
  | .fn f fs cs, hx => ⟨fun c m => Cap.lt_mono hk (hx.1 c m), fun c m => Cap.lt_mono hk (hx.2 c m)⟩
theorem SA.lt0_mono {k k' : Nat} (hk : k ≤ k') : ∀ {x : SA}, x.lt0 k → x.lt0 k'
  | .v _, _ => trivial
  | .p i o, hx => SA.lt_mono (x := .p i o) hk hx
  | .sl i o n c, hx => SA.lt_mono (x := .sl i o n c) hk hx
  | .row i, hx => SA.lt_mono (x := .row i) hk hx
  | .q i o, hx => SA.lt_mono (x := .q i o) hk hx
  | .fn f fs cs, hx => SA.lt_mono (x := .fn f fs cs) hk hx
theorem TV.lt_mono {k k' : Nat} (hk : k ≤ k') : ∀ {x : TV}, x.lt k → x.lt k'
  | .one x, hx => SA.lt0_mono (x := x) hk hx
  | .agg xs, hx => fun x m => SA.lt_mono hk (hx x m)
theorem SV.lt_mono {k k' : Nat} (hk : k ≤ k') : ∀ {x : SV}, x.lt k → x.lt k'
  | .one x, hx => SA.lt0_mono (x := x) hk hx
  | .agg xs, hx => fun x m => SA.lt_mono hk (hx x m)
  | .tup xs, hx => fun x m => TV.lt_mono hk (hx x m)
theorem LB.lt_mono {k k' : Nat} (hk : k ≤ k') : ∀ {x : LB}, x.lt k → x.lt k'
  | .dead, _ => trivial
  | .own .., _ => trivial
  | .cells t cs, hx => fun x m => SA.lt_mono hk (hx x m)
def dum : Obj := .deferred none
open Classical in
/-- The world without some blocks. -/
noncomputable def hide (H : Nat → Prop) (w : World) : World := { w with heap := w.heap.mapIdx fun g o => if H g then dum else o }
open Classical in
theorem hide_get (H : Nat → Prop) (w : World) (g : Nat) : (hide H w).heap[g]? = (w.heap[g]?).map fun o => if H g then dum else o := by
  simp [hide]
/-- What one world holds, the other one does. -/
def Sub (w w' : World) : Prop := ∀ (g : Nat) (o : Obj), w.heap[g]? = some o → o ≠ dum → w'.heap[g]? = some o
theorem Sub.refl (w : World) : Sub w w := fun _ _ h _ => h
theorem Sub.trans {a b c : World} (h : Sub a b) (h' : Sub b c) : Sub a c := fun g o hg ho => h' g o (h g o hg ho) ho
theorem hide_sub (H : Nat → Prop) (w : World) : Sub (hide H w) w := by
  intro g o hg ho
  rw [hide_get] at hg
  cases hw : w.heap[g]? with
  | none => rw [hw] at hg; simp at hg
  | some x =>
    rw [hw] at hg
    simp only [Option.map_some, Option.some.injEq] at hg
    split at hg
    · exact absurd hg.symm ho
    · rw [hg]
theorem hide_ext {H H' : Nat → Prop} {w w' : World} (h : ∀ (g : Nat) (o : Obj), w.heap[g]? = some o → ¬ H g → w'.heap[g]? = some o ∧ ¬ H' g) : Sub (hide H w) (hide H' w') := by
  intro g o hg ho
  rw [hide_get] at hg
  cases hw : w.heap[g]? with
  | none => rw [hw] at hg; simp at hg
  | some x =>
    rw [hw] at hg
    simp only [Option.map_some, Option.some.injEq] at hg
    split at hg
    · exact absurd hg.symm ho
    · rename_i hn
      subst hg
      obtain ⟨h1, h2⟩ := h g x hw hn
      rw [hide_get, h1]
      simp [h2]
/-- A fact that lasts. -/
def Up (F : World → Prop) : Prop := ∀ w w', Sub w w' → F w → F w'
theorem Up.true : Up fun _ => True := fun _ _ _ _ => trivial
theorem Up.pure (p : Prop) : Up fun _ => p := fun _ _ _ h => h
theorem Up.and {F G : World → Prop} (hF : Up F) (hG : Up G) : Up fun w => F w ∧ G w := fun w w' h x => ⟨hF w w' h x.1, hG w w' h x.2⟩
theorem Up.ex {α : Sort _} {F : α → World → Prop} (h : ∀ x, Up (F x)) : Up fun w => ∃ x, F x w := fun w w' hs ⟨x, hx⟩ => ⟨x, h x w w' hs hx⟩
theorem Up.all {α : Sort _} {F : α → World → Prop} (h : ∀ x, Up (F x)) : Up fun w => ∀ x, F x w := fun w w' hs hx x => h x w w' hs (hx x)
theorem Up.imp {p : Prop} {F : World → Prop} (h : Up F) : Up fun w => p → F w := fun w w' hs hx hp => h w w' hs (hx hp)
theorem Sub.cell {w w' : World} (h : Sub w w') {a : Addr} {v : Value} (hc : w.cell? a = some v) : w'.cell? a = some v := by
  unfold World.cell? at *
  cases hg : w.heap[a.block]? with
  | none => rw [hg] at hc; simp at hc
  | some o =>
    rw [hg] at hc
    cases o with
    | cells c t fz => rw [h a.block _ hg (by intro e; cases e)]; exact hc
    | _ => simp at hc
theorem Up.cell (a : Addr) (v : Value) : Up fun w => w.cell? a = some v := fun _ _ h hc => h.cell hc
theorem Up.block (g : Nat) (o : Obj) (ho : o ≠ dum) : Up fun w => w.heap[g]? = some o := fun _ _ h hc => h g o hc ho
def AllF : List (World → Prop) → World → Prop
  | [], _ => True
  | F :: r, w => F w ∧ AllF r w
theorem allF_iff {f : List (World → Prop)} {w : World} : AllF f w ↔ ∀ F ∈ f, F w := by
  induction f with
  | nil => simp [AllF]
  | cons F r ih => simp [AllF, ih]
def LB.block (e : Env) (i : Nat) : LB → Option Nat
  | .dead => none
  | .cells _ _ => some (e.blk i)
  | .own .. => (e.rv i).ownBlock
/-- Block g is that of number i. -/
def At (e : Env) (m : List (Nat × LB)) (i g : Nat) : Prop := ∃ b, get i m = some b ∧ b.block e i = some g
def Own (e : Env) (m : List (Nat × LB)) (g : Nat) : Prop := ∃ i, At e m i g
/-- Of the old world's blocks only those in G may have changed. -/
structure Fr (G : Nat → Prop) (w0 w : World) : Prop where
  os : w.os = w0.os
  tape : w.tape = w0.tape
  output : w.output = w0.output
  size : w0.heap.size ≤ w.heap.size
  block : ∀ g, g < w0.heap.size → ¬ G g → w.heap[g]? = w0.heap[g]?
theorem Fr.refl (G : Nat → Prop) (w : World) : Fr G w w := ⟨rfl, rfl, rfl, Nat.le_refl _, fun _ _ _ => rfl⟩
theorem Fr.trans {G : Nat → Prop} {G' : Nat → Prop} {a b c : World} (h : Fr G a b) (h' : Fr G' b c) (hG : ∀ g, g < a.heap.size → G' g → G g) : Fr G a c :=
  ⟨h'.os.trans h.os, h'.tape.trans h.tape, h'.output.trans h.output, Nat.le_trans h.size h'.size, fun g hg hn => (h'.block g (Nat.lt_of_lt_of_le hg h.size) (fun x => hn (hG g hg x))).trans (h.block g hg hn)⟩
theorem Fr.below {w0 w : World} (h : Fr (fun _ => False) w0 w) : Below w0.heap.size w0 w := ⟨h.os, h.tape, h.output, h.size, fun g hg => h.block g hg id⟩
theorem Fr.of_below {G : Nat → Prop} {w0 w : World} (h : Below w0.heap.size w0 w) : Fr G w0 w := ⟨h.os, h.tape, h.output, h.size, fun g hg _ => h.block g hg⟩
/-- What stays the same through a call: the world before it, the blocks that it may write, the blocks that no fact speaks of, the numbers given. -/
structure Cx where
  w0 : World
  G : Nat → Prop
  H : Nat → Prop
  hH : ∀ g, H g → g < w0.heap.size
  hG : ∀ g, G g → ¬ H g
  e0 : Env
  n0 : Nat
  n : Nat
  d : List Deferred
structure Mem (cx : Cx) (e : Env) (m : List (Nat × LB)) (k : Nat) (f : List (World → Prop)) (w : World) : Prop where
  fr : Fr cx.G cx.w0 w
  ids : ∀ i, i < cx.n0 → e.blk i = cx.e0.blk i
  low : cx.n0 ≤ k
  cells : ∀ i t cs, get i m = some (.cells t cs) → Blk w (e.blk i) t (reals e cs).toArray
  own : ∀ i E z n xs, get i m = some (.own E z n xs) → w.ownsRow 0 E z (e.rv i) n xs
  sc : ∀ i b, get i m = some b → i < k ∧ b.lt k
  free : ∀ i g, At e m i g → cx.w0.heap.size ≤ g ∨ cx.G g
  apart : ∀ i j g, At e m i g → At e m j g → i = j
  up : ∀ F ∈ f, Up F
  facts : ∀ F ∈ f, F (hide (fun g => cx.H g ∨ Own e m g) w)
structure Sat (cx : Cx) (e : Env) (st : St) (a : Act) (w : World) : Prop where
  base : cx.n0 = st.b
  size : a.tmps.size = cx.n
  defers : a.defers = cx.d
  slots : ∀ i v, get i st.s = some v → v.lt st.k ∧ a.tmps[i]? = some (v.real e)
  mem : Mem cx e st.m st.k st.f w
section
variable {cx : Cx} {e : Env} {m : List (Nat × LB)} {k : Nat} {f : List (World → Prop)} {w w' : World}
theorem Mem.lt (h : Mem cx e m k f w) {i g : Nat} (hg : At e m i g) : g < w.heap.size := by
  obtain ⟨b, hb, hg⟩ := hg
  cases b with
  | dead => cases hg
  | cells t cs => cases hg; exact (h.cells i t cs hb).lt
  | own E z n xs => exact ((h.own i E z n xs hb).lt g hg).2
theorem Mem.fact (h : Mem cx e m k f w) : AllF f w := by
  rw [allF_iff]
  exact fun F hF => h.up F hF _ _ (hide_sub _ w) (h.facts F hF)
theorem Mem.hidden (h : Mem cx e m k f w) : AllF f (hide (fun g => cx.H g ∨ Own e m g) w) := by
  rw [allF_iff]
  exact h.facts
/-- The world has only grown. -/
theorem Mem.later (h : Mem cx e m k f w) (hl : Later w w') : Mem cx e m k f w' := by
  refine ⟨h.fr.trans (G' := fun _ => False) (.of_below hl) (fun _ _ x => x.elim), h.ids, h.low, fun i t cs hi => (h.cells i t cs hi).bel hl, fun i E z n xs hi => own_bel (h.own i E z n xs hi) hl, h.sc, h.free, h.apart, h.up, fun F hF => ?_⟩
  refine h.up F hF _ _ (hide_ext fun g o hg hn => ⟨?_, hn⟩) (h.facts F hF)
  rw [hl.block g (Array.getElem?_eq_some_iff.1 hg).1, hg]
/-- A fact more. -/
theorem Mem.add (h : Mem cx e m k f w) {F : World → Prop} (hu : Up F) (hF : F (hide (fun g => cx.H g ∨ Own e m g) w)) : Mem cx e m k (F :: f) w := by
  refine ⟨h.fr, h.ids, h.low, h.cells, h.own, h.sc, h.free, h.apart, fun G hG => ?_, fun G hG => ?_⟩
  · rcases List.mem_cons.1 hG with rfl | hG
    · exact hu
    · exact h.up G hG
  · rcases List.mem_cons.1 hG with rfl | hG
    · exact hF
    · exact h.facts G hG
theorem Mem.next (h : Mem cx e m k f w) {k' : Nat} (hk : k ≤ k') : Mem cx e m k' f w :=
  ⟨h.fr, h.ids, Nat.le_trans h.low hk, h.cells, h.own, fun i b hi => ⟨Nat.lt_of_lt_of_le (h.sc i b hi).1 hk, LB.lt_mono hk (h.sc i b hi).2⟩, h.free, h.apart, h.up, h.facts⟩
/-- A block of another number in the environment. -/
def Env.setBlk (e : Env) (i g : Nat) : Env := { e with blk := fun j => if j = i then g else e.blk j }
def Env.setRow (e : Env) (i : Nat) (v : Option Addr × Nat × Nat) : Env := { e with row := fun j => if j = i then v else e.row j }
theorem Env.eqTo_blk (e : Env) (k g : Nat) : e.eqTo k (e.setBlk k g) := fun i hi => ⟨by simp [Env.setBlk, Nat.ne_of_lt hi], rfl⟩
theorem Env.eqTo_row (e : Env) (k : Nat) (v : Option Addr × Nat × Nat) : e.eqTo k (e.setRow k v) := fun i hi => ⟨rfl, by simp [Env.setRow, Nat.ne_of_lt hi]⟩
theorem Env.setBlk_self (e : Env) (k g : Nat) : (e.setBlk k g).blk k = g := by simp [Env.setBlk]
theorem Env.setRow_self (e : Env) (k : Nat) (v : Option Addr × Nat × Nat) : (e.setRow k v).rv k = .slice v.1 v.2.1 v.2.2 := by simp [Env.setRow, Env.rv]
theorem LB.block_eq {e e' : Env} {k i : Nat} (h : e.eqTo k e') (hi : i < k) : ∀ b : LB, b.block e' i = b.block e i
  | .dead => rfl
  | .cells _ _ => by simp only [LB.block, (h i hi).1]
  | .own .. => by simp only [LB.block, Env.rv, (h i hi).2]
theorem Mem.at_eq (h : Mem cx e m k f w) {e' : Env} (he : e.eqTo k e') {i g : Nat} : At e' m i g ↔ At e m i g := by
  constructor
  · rintro ⟨b, hb, hg⟩
    exact ⟨b, hb, by rw [← LB.block_eq he (h.sc i b hb).1]; exact hg⟩
  · rintro ⟨b, hb, hg⟩
    exact ⟨b, hb, by rw [LB.block_eq he (h.sc i b hb).1]; exact hg⟩
theorem Mem.env (h : Mem cx e m k f w) {e' : Env} (he : e.eqTo k e') : Mem cx e' m k f w := by
  refine ⟨h.fr, fun i hi => ((he i (Nat.lt_of_lt_of_le hi h.low)).1).trans (h.ids i hi), h.low, fun i t cs hi => ?_, fun i E z n xs hi => ?_, h.sc, fun i g hg => h.free i g ((h.at_eq he).1 hg), fun i j g hi hj => h.apart i j g ((h.at_eq he).1 hi) ((h.at_eq he).1 hj), h.up, fun F hF => ?_⟩
  · rw [(he i (h.sc i _ hi).1).1, reals_eq he (h.sc i _ hi).2]
    exact h.cells i t cs hi
  · simp only [Env.rv, (he i (h.sc i _ hi).1).2]
    exact h.own i E z n xs hi
  · refine h.up F hF _ _ (hide_ext fun g o hg hn => ⟨hg, fun hx => hn ?_⟩) (h.facts F hF)
    rcases hx with hx | ⟨i, hx⟩
    · exact .inl hx
    · exact .inr ⟨i, (h.at_eq he).1 hx⟩
/-- A new block, known whole. -/
theorem Mem.new (h : Mem cx e m k f w) (t : TypeId) (cs : List SA) (hc : ∀ c ∈ cs, c.lt k) :
    Mem cx (e.setBlk k w.heap.size) ((k, .cells t cs) :: m) (k + 1) f (w.alloc (.cells (reals e cs).toArray t)) := by
  have hl : Later w (w.alloc (.cells (reals e cs).toArray t)) := Below.alloc (Below.refl _ _) (Nat.le_refl _) _
  have h1 := ((h.later hl).env (e.eqTo_blk k w.heap.size)).next (Nat.le_succ k)
  have hfree : ∀ {i b}, get i m = some b → i ≠ k := fun hi => Nat.ne_of_lt (h.sc _ _ hi).1
  have hat : ∀ {i g}, At (e.setBlk k w.heap.size) ((k, LB.cells t cs) :: m) i g → (i = k ∧ g = w.heap.size) ∨ (i ≠ k ∧ At (e.setBlk k w.heap.size) m i g) := by
    rintro i g ⟨b, hb, hg⟩
    rcases get_cons hb with ⟨rfl, rfl⟩ | ⟨hne, hb⟩
    · simp only [LB.block, Env.setBlk_self, Option.some.injEq] at hg
      exact .inl ⟨rfl, hg.symm⟩
    · exact .inr ⟨hne, b, hb, hg⟩
  have hold : ∀ {i g}, At (e.setBlk k w.heap.size) m i g → g < w.heap.size := fun hg => h.lt ((h.at_eq (e.eqTo_blk k _)).1 hg)
  refine ⟨h1.fr, h1.ids, h1.low, fun i t' cs' hi => ?_, fun i E z n xs hi => ?_, fun i b hi => ?_, fun i g hg => ?_, fun i j g hi hj => ?_, h1.up, fun F hF => ?_⟩
  · rcases get_cons hi with ⟨rfl, e1⟩ | ⟨hne, hi⟩
    · cases e1
      rw [Env.setBlk_self, reals_eq (e.eqTo_blk i _) hc]
      exact Blk.new _ _ _
    · exact h1.cells i t' cs' hi
  · rcases get_cons hi with ⟨rfl, e1⟩ | ⟨hne, hi⟩
    · cases e1
    · exact h1.own i E z n xs hi
  · rcases get_cons hi with ⟨rfl, e1⟩ | ⟨hne, hi⟩
    · subst e1
      exact ⟨Nat.lt_succ_self _, fun c hm => SA.lt_mono (Nat.le_succ _) (hc c hm)⟩
    · exact h1.sc i b hi
  · rcases hat hg with ⟨rfl, rfl⟩ | ⟨hne, hg⟩
    · exact .inl h.fr.size
    · exact h1.free i g hg
  · rcases hat hi with ⟨rfl, rfl⟩ | ⟨hne, hi⟩
    · rcases hat hj with ⟨rfl, _⟩ | ⟨_, hj⟩
      · rfl
      · have := hold hj; omega
    · rcases hat hj with ⟨rfl, rfl⟩ | ⟨_, hj⟩
      · have := hold hi; omega
      · exact h1.apart i j g hi hj
  · refine h.up F hF _ _ (hide_ext fun g o hg hn => ?_) (h.facts F hF)
    have hgs := (Array.getElem?_eq_some_iff.1 hg).1
    refine ⟨by rw [hl.block g hgs, hg], fun hx => hn ?_⟩
    rcases hx with hx | ⟨i, hx⟩
    · exact .inl hx
    · rcases hat hx with ⟨rfl, rfl⟩ | ⟨_, hx⟩
      · omega
      · exact .inr ⟨i, (h.at_eq (e.eqTo_blk k _)).1 hx⟩
/-- An own block has other cells. -/
theorem Mem.set (h : Mem cx e m k f w) {i : Nat} {t : TypeId} {cs cs' : List SA} (hi : get i m = some (.cells t cs)) (hc : ∀ c ∈ cs', c.lt k)
    (hb : Blk w' (e.blk i) t (reals e cs').toArray) (hk : ∀ g, g ≠ e.blk i → w'.heap[g]? = w.heap[g]?) (hos : w'.os = w.os) (htp : w'.tape = w.tape) (hout : w'.output = w.output) (hsz : w'.heap.size = w.heap.size) :
    Mem cx e ((i, .cells t cs') :: m) k f w' := by
  have hat : ∀ {j g}, At e ((i, LB.cells t cs') :: m) j g ↔ At e m j g := by
    intro j g
    constructor
    · rintro ⟨b, hb, hg⟩
      rcases get_cons hb with ⟨rfl, rfl⟩ | ⟨hne, hb⟩
      · exact ⟨_, hi, hg⟩
      · exact ⟨b, hb, hg⟩
    · rintro ⟨b, hb2, hg⟩
      by_cases e1 : j = i
      · subst e1
        rw [hi] at hb2
        cases hb2
        exact ⟨_, get_self _ _ _, hg⟩
      · exact ⟨b, by rw [get_ne e1]; exact hb2, hg⟩
  have hme : At e m i (e.blk i) := ⟨_, hi, rfl⟩
  have hother : ∀ {j b g}, j ≠ i → get j m = some b → b.block e j = some g → w'.heap[g]? = w.heap[g]? := fun hj hb hg => hk _ fun e1 => hj (h.apart _ _ _ ⟨_, hb, hg⟩ (e1 ▸ hme))
  refine ⟨⟨hos.trans h.fr.os, htp.trans h.fr.tape, hout.trans h.fr.output, by rw [hsz]; exact h.fr.size, fun g hg hn => ?_⟩, h.ids, h.low, fun j t' cs2 hj => ?_, fun j E z n xs hj => ?_, fun j b hj => ?_, fun j g hg => h.free j g (hat.1 hg), fun j l g hj hl => h.apart j l g (hat.1 hj) (hat.1 hl), h.up, fun F hF => ?_⟩
  · rw [hk g fun e1 => ?_]
    · exact h.fr.block g hg hn
    · rcases h.free i g (e1 ▸ hme) with h1 | h1
      · omega
      · exact hn h1
  · rcases get_cons hj with ⟨rfl, e1⟩ | ⟨hne, hj⟩
    · cases e1
      exact hb
    · exact (hother hne hj rfl).trans (h.cells j t' cs2 hj)
  · rcases get_cons hj with ⟨rfl, e1⟩ | ⟨hne, hj⟩
    · cases e1
    · exact own_heap (h.own j E z n xs hj) fun g hg => hother hne hj hg
  · rcases get_cons hj with ⟨rfl, e1⟩ | ⟨hne, hj⟩
    · subst e1
      exact ⟨(h.sc _ _ hi).1, hc⟩
    · exact h.sc j b hj
  · refine h.up F hF _ _ (hide_ext fun g o hg hn => ?_) (h.facts F hF)
    refine ⟨by rw [hk g (fun e1 => hn (.inr ⟨i, e1 ▸ hme⟩)), hg], fun hx => hn ?_⟩
    rcases hx with hx | ⟨j, hx⟩
    · exact .inl hx
    · exact .inr ⟨j, hat.1 hx⟩
/-- A row of own memory written in place. -/
theorem Mem.setr (h : Mem cx e m k f w) {i E z n : Nat} {xs xs' : List Value} (hi : get i m = some (.own E z n xs)) (hb : w'.ownsRow 0 E z (e.rv i) n xs')
    (hk : ∀ g, (e.rv i).ownBlock ≠ some g → w'.heap[g]? = w.heap[g]?) (hos : w'.os = w.os) (htp : w'.tape = w.tape) (hout : w'.output = w.output) (hsz : w'.heap.size = w.heap.size) :
    Mem cx e ((i, .own E z n xs') :: m) k f w' := by
  have hat : ∀ {j g}, At e ((i, LB.own E z n xs') :: m) j g ↔ At e m j g := by
    intro j g
    constructor
    · rintro ⟨b, hb, hg⟩
      rcases get_cons hb with ⟨rfl, rfl⟩ | ⟨hne, hb⟩
      · exact ⟨_, hi, hg⟩
      · exact ⟨b, hb, hg⟩
    · rintro ⟨b, hb2, hg⟩
      by_cases e1 : j = i
      · subst e1
        rw [hi] at hb2
        cases hb2
        exact ⟨_, get_self _ _ _, hg⟩
      · exact ⟨b, by rw [get_ne e1]; exact hb2, hg⟩
  have hme : ∀ {g}, (e.rv i).ownBlock = some g → At e m i g := fun hg => ⟨_, hi, hg⟩
  have hother : ∀ {j b g}, j ≠ i → get j m = some b → b.block e j = some g → w'.heap[g]? = w.heap[g]? := fun hj hb hg => hk _ fun e1 => hj (h.apart _ _ _ ⟨_, hb, hg⟩ (hme e1))
  refine ⟨⟨hos.trans h.fr.os, htp.trans h.fr.tape, hout.trans h.fr.output, by rw [hsz]; exact h.fr.size, fun g hg hn => ?_⟩, h.ids, h.low, fun j t' cs2 hj => ?_, fun j E' z' n' xs2 hj => ?_, fun j b hj => ?_, fun j g hg => h.free j g (hat.1 hg), fun j l g hj hl => h.apart j l g (hat.1 hj) (hat.1 hl), h.up, fun F hF => ?_⟩
  · rw [hk g fun e1 => ?_]
    · exact h.fr.block g hg hn
    · rcases h.free i g (hme e1) with h1 | h1
      · omega
      · exact hn h1
  · rcases get_cons hj with ⟨rfl, e1⟩ | ⟨hne, hj⟩
    · cases e1
    · exact (hother hne hj rfl).trans (h.cells j t' cs2 hj)
  · rcases get_cons hj with ⟨rfl, e1⟩ | ⟨hne, hj⟩
    · cases e1
      exact hb
    · exact own_heap (h.own j E' z' n' xs2 hj) fun g hg => hother hne hj hg
  · rcases get_cons hj with ⟨rfl, e1⟩ | ⟨hne, hj⟩
    · subst e1
      exact ⟨(h.sc _ _ hi).1, trivial⟩
    · exact h.sc j b hj
  · refine h.up F hF _ _ (hide_ext fun g o hg hn => ?_) (h.facts F hF)
    refine ⟨by rw [hk g (fun e1 => hn (.inr ⟨i, hme e1⟩)), hg], fun hx => hn ?_⟩
    rcases hx with hx | ⟨j, hx⟩
    · exact .inl hx
    · exact .inr ⟨j, hat.1 hx⟩
def kill : Option Nat → List (Nat × LB) → List (Nat × LB)
  | some i, m => (i, LB.dead) :: m
  | none, m => m
/-- The block that a row is grown from. -/
def oldBlk (e : Env) (m : List (Nat × LB)) : Option Nat → Option Nat
  | none => none
  | some i => (get i m).bind fun b => b.block e i
/-- A row is written anew, from an elder one or from nothing. -/
theorem Mem.grow (h : Mem cx e m k f w) {v : Option Addr × Nat × Nat} {E : TypeId} {z n : Nat} {xs : List Value} (old : Option Nat) (hold : ∀ i, old = some i → i < k)
    (hg : w.grownBy w' (oldBlk e m old)) (hown : w'.ownsRow 0 E z (.slice v.1 v.2.1 v.2.2) n xs)
    (hnew : ∀ g, (Value.slice v.1 v.2.1 v.2.2).ownBlock = some g → w.heap.size ≤ g ∨ oldBlk e m old = some g) :
    Mem cx (e.setRow k v) ((k, .own E z n xs) :: kill old m) (k + 1) f w' := by
  obtain ⟨m1, hm1⟩ : ∃ m1, m1 = kill old m := ⟨_, rfl⟩
  rw [← hm1]
  have hsub : ∀ {j b}, get j m1 = some b → b = .dead ∨ (get j m = some b ∧ old ≠ some j) := by
    intro j b hj
    cases old with
    | none => simp only [kill] at hm1; subst hm1; exact .inr ⟨hj, fun x => by cases x⟩
    | some i =>
      simp only [kill] at hm1
      subst hm1
      rcases get_cons hj with ⟨rfl, rfl⟩ | ⟨hne, hj⟩
      · exact .inl rfl
      · exact .inr ⟨hj, fun x => hne (Option.some.inj x).symm⟩
  have hscd : ∀ {j b}, get j m1 = some b → j < k := by
    intro j b hj
    cases old with
    | none => simp only [kill] at hm1; subst hm1; exact (h.sc _ _ hj).1
    | some i =>
      simp only [kill] at hm1
      subst hm1
      rcases get_cons hj with ⟨rfl, rfl⟩ | ⟨hne, hj⟩
      · exact hold j rfl
      · exact (h.sc _ _ hj).1
  have hrow : ∀ {g}, oldBlk e m old = some g → ∃ i, old = some i ∧ At e m i g := by
    intro g h1
    cases old with
    | none => cases h1
    | some i =>
      simp only [oldBlk] at h1
      cases hb : get i m with
      | none => rw [hb] at h1; cases h1
      | some b =>
        rw [hb] at h1
        exact ⟨i, rfl, b, hb, h1⟩
  have heq := e.eqTo_row k v
  have hat1 : ∀ {j g}, At (e.setRow k v) m1 j g → At e m j g ∧ old ≠ some j := by
    rintro j g ⟨b, hb, hg⟩
    rcases hsub hb with rfl | ⟨hb, hne⟩
    · cases hg
    · exact ⟨(h.at_eq heq).1 ⟨b, hb, hg⟩, hne⟩
  have hat : ∀ {j g}, At (e.setRow k v) ((k, LB.own E z n xs) :: m1) j g → (j = k ∧ (Value.slice v.1 v.2.1 v.2.2).ownBlock = some g) ∨ (j ≠ k ∧ At e m j g ∧ old ≠ some j) := by
    rintro j g ⟨b, hb, hg⟩
    rcases get_cons hb with ⟨rfl, rfl⟩ | ⟨hne, hb⟩
    · simp only [LB.block, Env.setRow_self] at hg
      exact .inl ⟨rfl, hg⟩
    · exact .inr ⟨hne, hat1 ⟨b, hb, hg⟩⟩
  have hkeep : ∀ {j g}, At e m j g → old ≠ some j → w'.heap[g]? = w.heap[g]? := by
    intro j g hj hne
    refine hg.block g (h.lt hj) fun e1 => ?_
    obtain ⟨i, hi, hi2⟩ := hrow e1.symm
    exact hne (hi.trans (congrArg some (h.apart _ _ _ hi2 hj)))
  refine ⟨⟨hg.os.trans h.fr.os, hg.tape.trans h.fr.tape, hg.output.trans h.fr.output, Nat.le_trans h.fr.size hg.size, fun g hgs hn => ?_⟩, fun i hi => ((heq i (Nat.lt_of_lt_of_le hi h.low)).1).trans (h.ids i hi), Nat.le_succ_of_le h.low, fun j t cs hj => ?_, fun j E' z' n' xs' hj => ?_, fun j b hj => ?_, fun j g hj => ?_, fun j l g hj hl => ?_, h.up, fun F hF => ?_⟩
  · rw [hg.block g (Nat.lt_of_lt_of_le hgs h.fr.size) fun e1 => ?_]
    · exact h.fr.block g hgs hn
    · obtain ⟨i, hi, hi2⟩ := hrow e1.symm
      rcases h.free i g hi2 with h1 | h1
      · omega
      · exact hn h1
  · rcases get_cons hj with ⟨rfl, e1⟩ | ⟨hne, hj⟩
    · cases e1
    · rcases hsub hj with h1 | ⟨hj, hno⟩
      · cases h1
      · rw [(heq j (h.sc j _ hj).1).1, reals_eq heq (h.sc j _ hj).2]
        exact (hkeep ⟨_, hj, rfl⟩ hno).trans (h.cells j t cs hj)
  · rcases get_cons hj with ⟨rfl, e1⟩ | ⟨hne, hj⟩
    · cases e1
      rw [Env.setRow_self]
      exact hown
    · rcases hsub hj with h1 | ⟨hj, hno⟩
      · cases h1
      · simp only [Env.rv, (heq j (h.sc j _ hj).1).2]
        exact own_heap (h.own j _ _ _ _ hj) fun g hg2 => hkeep ⟨_, hj, hg2⟩ hno
  · rcases get_cons hj with ⟨rfl, e1⟩ | ⟨hne, hj⟩
    · subst e1
      exact ⟨Nat.lt_succ_self _, trivial⟩
    · refine ⟨Nat.lt_succ_of_lt (hscd hj), ?_⟩
      rcases hsub hj with rfl | ⟨hj, _⟩
      · trivial
      · exact LB.lt_mono (Nat.le_succ _) (h.sc j b hj).2
  · rcases hat hj with ⟨rfl, hv⟩ | ⟨_, hj, _⟩
    · rcases hnew g hv with h1 | h1
      · exact .inl (Nat.le_trans h.fr.size h1)
      · obtain ⟨i, _, hi2⟩ := hrow h1
        exact h.free i g hi2
    · exact h.free j g hj
  · rcases hat hj with ⟨hj0, hv⟩ | ⟨hj0, hj1, hjo⟩
    · rcases hat hl with ⟨hl0, _⟩ | ⟨hl0, hl1, hlo⟩
      · rw [hj0, hl0]
      · rcases hnew g hv with h1 | h1
        · have := h.lt hl1; omega
        · obtain ⟨i, hi, hi2⟩ := hrow h1
          exact absurd (hi.trans (congrArg some (h.apart _ _ _ hi2 hl1))) hlo
    · rcases hat hl with ⟨hl0, hv⟩ | ⟨hl0, hl1, hlo⟩
      · rcases hnew g hv with h1 | h1
        · have := h.lt hj1; omega
        · obtain ⟨i, hi, hi2⟩ := hrow h1
          exact absurd (hi.trans (congrArg some (h.apart _ _ _ hi2 hj1))) hjo
      · exact h.apart j l g hj1 hl1
  · refine h.up F hF _ _ (hide_ext fun g o hgo hn => ?_) (h.facts F hF)
    have hgs := (Array.getElem?_eq_some_iff.1 hgo).1
    refine ⟨?_, fun hx => hn ?_⟩
    · rw [hg.block g hgs fun e1 => ?_, hgo]
      obtain ⟨i, _, hi2⟩ := hrow e1.symm
      exact hn (.inr ⟨i, hi2⟩)
    · rcases hx with hx | ⟨j, hx⟩
      · exact .inl hx
      · rcases hat hx with ⟨rfl, hv⟩ | ⟨_, hx, _⟩
        · rcases hnew g hv with h1 | h1
          · omega
          · obtain ⟨i, _, hi2⟩ := hrow h1
            exact .inr ⟨i, hi2⟩
        · exact .inr ⟨j, hx⟩
end
end Go.Proofs.Sym
end
section
set_option linter.unusedVariables false
set_option linter.unusedSimpArgs false
namespace Go.Proofs.Sym
open Go.RowKit Go.Proofs.Base Go.Proofs.Mono
structure TyI where
  size : Nat
  bytes : Nat
  agg : Bool
  zero : List Value
def TyI.val (i : TyI) : Value := match i.agg with
  | true => .agg i.zero.toArray
  | false => i.zero.headD undef
structure Tab where
  ty : List (Nat × TyI)
  u : List (Nat × TypeDesc)
  fld : List (Nat × List (Nat × Nat))
  eqs : List (Nat × Nat)
def isAggD : TypeDesc → Bool
  | .struct _ => true
  | .array _ _ => true
  | _ => false
def isIfcD : TypeDesc → Bool
  | .interface _ => true
  | _ => false
/-- Structs that are equal just if their cells, all integers, are. -/
def eqInts : List Value → List Value → Option Bool
  | [], [] => some true
  | .int .i64 a :: xs, .int .i64 b :: ys => match eqInts xs ys with
    | some r => some (decide (a = b) && r)
    | none => none
  | _, _ => none
structure Tab.Ok (P : Program) (T : Tab) : Prop where
  mixed : P.follows .mixedOrders = true
  ty : ∀ p ∈ T.ty, (P.info? p.1).map (fun f => (f.size, f.bytes, f.zero)) = some (p.2.size, p.2.bytes, some p.2.val) ∧ (P.underlying p.1).map isAggD = some p.2.agg ∧ p.2.zero.length = p.2.size ∧ (p.2.agg = false → p.2.size = 1) ∧ (∀ v ∈ p.2.zero, v.oneCell' = true)
  u : ∀ p ∈ T.u, P.underlying p.1 = some p.2
  fld : ∀ p ∈ T.fld, ∃ gs, P.underlying p.1 = some (.struct gs) ∧ gs.toList.map (fun f => (f.offset, f.type)) = p.2
  eqs : ∀ p ∈ T.eqs, ∀ (xs ys : List Value) (r : Bool) (w : World) (x y : Operand), xs.length = p.2 → eqInts xs ys = some r →
    (do eqGuard .eql p.1 x y (.agg xs.toArray) (.agg ys.toArray); binOp .eql p.1 (.agg xs.toArray) (.agg ys.toArray) : Sem Value).run P w = .ok (.bool r) w ∧
    (do eqGuard .neq p.1 x y (.agg xs.toArray) (.agg ys.toArray); binOp .neq p.1 (.agg xs.toArray) (.agg ys.toArray) : Sem Value).run P w = .ok (.bool !r) w
theorem get_mem {α : Type _} {i : Nat} {x : α} : ∀ {l : List (Nat × α)}, get i l = some x → (i, x) ∈ l
  | [], h => by cases h
  | (j, y) :: r, h => by
    rcases get_cons h with ⟨rfl, rfl⟩ | ⟨_, h⟩
    · exact List.mem_cons_self
    · exact List.mem_cons_of_mem _ (get_mem h)
section
variable {P : Program} {T : Tab} (hT : T.Ok P)
include hT
theorem Tab.Ok.size {t : Nat} {i : TyI} (h : get t T.ty = some i) (w : World) : (sizeOf t).run P w = .ok i.size w := by
  have := (hT.ty _ (get_mem h)).1
  cases hi : P.info? t with
  | none => rw [hi] at this; simp at this
  | some f =>
    rw [hi] at this
    simp only [Option.map_some, Option.some.injEq, Prod.mk.injEq] at this
    simp [sizeOf, typeInfo, hi, this.1]
theorem Tab.Ok.zero {t : Nat} {i : TyI} (h : get t T.ty = some i) (w : World) : (zeroValue t).run P w = .ok i.val w := by
  have := (hT.ty _ (get_mem h)).1
  cases hi : P.info? t with
  | none => rw [hi] at this; simp at this
  | some f =>
    rw [hi] at this
    simp only [Option.map_some, Option.some.injEq, Prod.mk.injEq] at this
    simp [zeroValue, typeInfo, hi, this.2.2]
theorem Tab.Ok.info {t : Nat} {i : TyI} (h : get t T.ty = some i) : ∃ f, P.info? t = some f ∧ f.size = i.size ∧ f.bytes = i.bytes ∧ f.zero = some i.val := by
  have := (hT.ty _ (get_mem h)).1
  cases hi : P.info? t with
  | none => rw [hi] at this; simp at this
  | some f =>
    rw [hi] at this
    simp only [Option.map_some, Option.some.injEq, Prod.mk.injEq] at this
    exact ⟨f, rfl, this⟩
theorem Tab.Ok.isAgg {t : Nat} {i : TyI} (h : get t T.ty = some i) (w : World) : (isAgg t).run P w = .ok i.agg w := by
  have := (hT.ty _ (get_mem h)).2.1
  cases hi : P.underlying t with
  | none => rw [hi] at this; simp at this
  | some d =>
    rw [hi] at this
    simp only [Option.map_some, Option.some.injEq] at this
    rw [← this]
    simp only [Go.isAgg, Sem.run_bind, run_underlying hi, Result.andThen_ok]
    cases d <;> rfl
theorem Tab.Ok.cells {t : Nat} {i : TyI} (h : get t T.ty = some i) : i.val.cells = i.zero.toArray := by
  obtain ⟨_, _, h3, h4, h5⟩ := hT.ty _ (get_mem h)
  unfold TyI.val
  cases ha : i.agg with
  | true => rfl
  | false =>
    have hl := h3.trans (h4 ha)
    match hz : i.zero, hl with
    | [z], _ =>
      have h1 := h5 z (by simp [hz])
      cases z <;> simp_all [Value.cells, Value.oneCell']
end
def ev (s : List (Nat × SV)) : Operand → Option SV
  | .tmp t => get t s
  | .const v => some (.one (.v v))
  | .global g => some (.one (.v (.pointer (some ⟨g, 0, none⟩))))
  | .func f => some (.one (.fn f [] []))
section
variable {cx : Cx} {e : Env} {st : St} {a : Act} {w : World}
theorem Sat.ev (h : Sat cx e st a w) {x : Operand} {v : SV} (hv : ev st.s x = some v) : v.lt st.k ∧ a.eval x = v.real e := by
  cases x with
  | tmp t =>
    obtain ⟨h1, h2⟩ := h.slots t v hv
    exact ⟨h1, by simp [Act.eval, Array.getD_eq_getD_getElem?, h2]⟩
  | const u => cases hv; exact ⟨trivial, rfl⟩
  | global g => cases hv; exact ⟨trivial, rfl⟩
  | func f => cases hv; exact ⟨⟨by simp, by simp⟩, rfl⟩
end
/-- The cells of a struct or an array. -/
def aggOf : SV → Option (List SA)
  | .agg xs => some xs
  | .one (.v (.agg cs)) => match cs.toList.all Value.oneCell' with
    | true => some (cs.toList.map SA.v)
    | false => none
  | _ => none
def cellsOf (v : SV) : Option (List SA) := match v with
  | .one (.v (.agg cs)) => match cs.toList.all Value.oneCell' with
    | true => some (cs.toList.map SA.v)
    | false => none
  | .one (.v (.tuple _)) => none
  | .one x => some [x]
  | .agg xs => some xs
  | .tup _ => none
theorem map_plain (e : Env) (cs : List Value) : reals e (cs.map SA.v) = cs := by
  simp only [reals, List.map_map]
  exact (List.map_congr_left (fun x _ => rfl)).trans (List.map_id _)
theorem aggOf_ok {v : SV} {xs : List SA} (h : aggOf v = some xs) (e : Env) {k : Nat} (hl : v.lt k) : v.real e = .agg (reals e xs).toArray ∧ ∀ x ∈ xs, x.lt k := by
  match v, h with
  | .agg ys, h => cases h; exact ⟨rfl, hl⟩
  | .one (.v (.agg cs)), h =>
    simp only [aggOf] at h
    split at h
    · rename_i hone
      cases h
      refine ⟨by rw [map_plain]; rfl, fun x hx => ?_⟩
      obtain ⟨u, hu, rfl⟩ := List.mem_map.1 hx
      exact List.all_eq_true.1 hone u hu
    · cases h
theorem cellsOf_ok {v : SV} {xs : List SA} (h : cellsOf v = some xs) (e : Env) {k : Nat} (hl : v.lt k) : (v.real e).cells = (reals e xs).toArray ∧ ∀ x ∈ xs, x.lt k := by
  match v, h with
  | .agg ys, h => cases h; exact ⟨rfl, hl⟩
  | .one (.v y), h =>
    cases y with
    | agg cs =>
      simp only [cellsOf] at h
      split at h
      · rename_i hone
        cases h
        refine ⟨by rw [map_plain]; rfl, fun x hx => ?_⟩
        obtain ⟨u, hu, rfl⟩ := List.mem_map.1 hx
        exact List.all_eq_true.1 hone u hu
      · cases h
    | tuple ts => simp [cellsOf] at h
    | _ =>
      simp only [cellsOf, Option.some.injEq] at h
      subst h
      exact ⟨rfl, fun x hx => by rw [List.mem_singleton.1 hx]; rfl⟩
  | .one (.p i o), h =>
    simp only [cellsOf, Option.some.injEq] at h; subst h
    exact ⟨rfl, fun x hx => by rw [List.mem_singleton.1 hx]; exact hl⟩
  | .one (.sl i o n c), h =>
    simp only [cellsOf, Option.some.injEq] at h; subst h
    exact ⟨rfl, fun x hx => by rw [List.mem_singleton.1 hx]; exact hl⟩
  | .one (.row i), h =>
    simp only [cellsOf, Option.some.injEq] at h; subst h
    exact ⟨rfl, fun x hx => by rw [List.mem_singleton.1 hx]; exact hl⟩
  | .one (.q i o), h =>
    simp only [cellsOf, Option.some.injEq] at h; subst h
    exact ⟨rfl, fun x hx => by rw [List.mem_singleton.1 hx]; exact hl⟩
  | .one (.fn f fs cs), h =>
    simp only [cellsOf, Option.some.injEq] at h; subst h
    exact ⟨rfl, fun x hx => by rw [List.mem_singleton.1 hx]; exact hl⟩
theorem one_real (e : Env) {k : Nat} : ∀ {x : SA}, x.lt k → (x.real e).oneCell' = true
  | .v _, h => h
  | .p _ _, _ => rfl
  | .sl _ _ _ _, _ => rfl
  | .row _, _ => rfl
  | .q _ _, _ => rfl
  | .fn _ _ _, _ => rfl
def plainOf : List SA → Option (List Value)
  | [] => some []
  | .v x :: r => match plainOf r with
    | some xs => some (x :: xs)
    | none => none
  | _ :: _ => none
theorem plainOf_ok (e : Env) : ∀ {xs : List SA} {vs : List Value}, plainOf xs = some vs → reals e xs = vs
  | [], vs, h => by cases h; rfl
  | .v x :: r, vs, h => by
    simp only [plainOf] at h
    split at h
    · rename_i xs hx
      cases h
      simp [reals, SA.real, ← plainOf_ok e hx]
    · cases h
/-- What a walk tells of an operation. -/
structure Ch where
  n : Nat := 0
  m : Nat := 0
  v : Value := undef
  cs : List Value := []
  b : ByteArray := ⟨#[]⟩
  u : Option SV := none
inductive Sig where
  | bad
  | det (v : SV)
  | new (v : SV) (t : TypeId) (cs : List SA)
  | pick (ob : Ch → Prop) (v : Ch → SV)
  | set (i : Nat) (t : TypeId) (cs : List SA)
  | setr (ob : Prop) (i E z n : Nat) (xs : List Value)
  | ask (R : Value → Prop) (F : Value → World → Prop)
  | grow (ob : Ch → Prop) (old : Option Nat) (E z : Nat) (n : Ch → Nat) (xs : Ch → List Value)
  | call (f : FuncId) (args : List SV)
  | pan (v : Value)
structure GrowOk (P : Program) (e : Env) (m : List (Nat × LB)) (w w' : World) (v : Option Addr × Nat × Nat) (old : Option Nat) (E z n : Nat) (xs : List Value) : Prop where
  g : w.grownBy w' (oldBlk e m old)
  own : w'.ownsRow 0 E z (.slice v.1 v.2.1 v.2.2) n xs
  new : ∀ g, (Value.slice v.1 v.2.1 v.2.2).ownBlock = some g → w.heap.size ≤ g ∨ oldBlk e m old = some g
structure SetOk (e : Env) (w w' : World) (i : Nat) (t : TypeId) (cs : List SA) : Prop where
  blk : Blk w' (e.blk i) t (reals e cs).toArray
  far : ∀ g, g ≠ e.blk i → w'.heap[g]? = w.heap[g]?
  os : w'.os = w.os
  tape : w'.tape = w.tape
  out : w'.output = w.output
  size : w'.heap.size = w.heap.size
structure SetROk (e : Env) (w w' : World) (i E z n : Nat) (xs : List Value) : Prop where
  own : w'.ownsRow 0 E z (e.rv i) n xs
  far : ∀ g, (e.rv i).ownBlock ≠ some g → w'.heap[g]? = w.heap[g]?
  os : w'.os = w.os
  tape : w'.tape = w.tape
  out : w'.output = w.output
  size : w'.heap.size = w.heap.size
/-- That an operation does what its sign tells. -/
def SigOk (P : Program) (e : Env) (st : St) (o : Oper) (a : Act) (w : World) : Sig → Prop
  | .bad => True
  | .det v => v.lt st.k ∧ (execOp a.eval o).run P w = .ok (.value (v.real e)) w
  | .new v t cs => v.lt (st.k + 1) ∧ (∀ c ∈ cs, c.lt st.k) ∧ (execOp a.eval o).run P w = .ok (.value (v.real (e.setBlk st.k w.heap.size))) (w.alloc (.cells (reals e cs).toArray t))
  | .pick ob v => ∀ c, ob c → (v c).lt st.k ∧ (execOp a.eval o).run P w = .ok (.value ((v c).real e)) w
  | .set i t cs => (∃ cs0, get i st.m = some (.cells t cs0)) ∧ (∀ c ∈ cs, c.lt st.k) ∧ ∃ w', (execOp a.eval o).run P w = .ok .skip w' ∧ SetOk e w w' i t cs
  | .setr ob i E z n xs => ob → (∃ xs0, get i st.m = some (.own E z n xs0)) ∧ ∃ w', (execOp a.eval o).run P w = .ok .skip w' ∧ SetROk e w w' i E z n xs
  | .ask R F => ∀ H : Nat → Prop, (∀ g, H g → g < w.heap.size) → ∃ u w', (execOp a.eval o).run P w = .ok (.value u) w' ∧ Later w w' ∧ R u ∧ (∀ u, Up (F u)) ∧ F u (hide H w')
  | .grow ob old E z n xs => (∀ i, old = some i → i < st.k) ∧ ∀ c, ob c → ∃ v w', (execOp a.eval o).run P w = .ok (.value (.slice v.1 v.2.1 v.2.2)) w' ∧ GrowOk P e st.m w w' v old E z (n c) (xs c)
  | .call f args => (∀ x ∈ args, x.lt st.k) ∧ ((∃ fn, P.funcs[f]? = some fn ∧ (fn.name == "runtime.NumGoroutine") = false ∧ fn.body.isNone = false) → (execOp a.eval o).run P w = .ok (.enter f (args.map (SV.real e)).toArray) w)
  | .pan v => (execOp a.eval o).run P w = .halt (.panic v) w
def sigMove (st : St) (x : Operand) : Sig := match ev st.s x with
  | some v => .det v
  | none => .bad
def sigPick (st : St) (c x y : Operand) : Sig := match ev st.s c with
  | some (.one (.v (.bool true))) => sigMove st x
  | some (.one (.v (.bool false))) => sigMove st y
  | _ => .bad
def sigAlloc (T : Tab) (st : St) (t : TypeId) : Sig := match get t T.ty with
  | some i => .new (.one (.p st.k 0)) t (i.zero.map SA.v)
  | none => .bad
def sigBox (st : St) (t : TypeId) (x : Operand) : Sig := match ev st.s x with
  | some v => match cellsOf v with
    | some cs => .new (.one (.p st.k 0)) t cs
    | none => .bad
  | none => .bad
/-- A part of some cells. -/
def partOf (i : TyI) (cs : List SA) (o : Nat) : Option SV := match i.agg with
  | true => match Nat.ble (o + i.size) cs.length with
    | true => some (.agg ((cs.drop o).take i.size))
    | false => none
  | false => match cs[o]? with
    | some c => some (.one c)
    | none => none
def sigLoad (T : Tab) (st : St) (t : TypeId) (x : Operand) : Sig := match get t T.ty with
  | none => .bad
  | some i => match ev st.s x with
    | some (.one (.p j o)) => match get j st.m with
      | some (.cells _ cs) => match partOf i cs o with
        | some v => .det v
        | none => .bad
      | _ => .bad
    | some (.one (.q j o)) => match get j st.m with
      | some (.own _ _ n xs) => match i.agg with
        | true => .pick (fun c => 0 < n ∧ (∀ v ∈ c.cs, v.oneCell' = true) ∧ c.cs.length = i.size ∧ ∀ l u, c.cs[l]? = some u → xs[o + l]? = some u) (fun c => .agg (c.cs.map SA.v))
        | false => .pick (fun c => xs[o]? = some c.v) (fun c => .one (.v c.v))
      | _ => .bad
    | some (.one (.v y)) => match i.agg with
      | true => .pick (fun c => (∀ v ∈ c.cs, v.oneCell' = true) ∧ c.cs.length = i.size ∧ ∀ w, AllF st.f w → ∃ a, y = .pointer (some a) ∧ ∀ l u, c.cs[l]? = some u → w.cell? (a.add l) = some u) (fun c => .agg (c.cs.map SA.v))
      | false => .pick (fun c => ∀ w, AllF st.f w → ∃ a, y = .pointer (some a) ∧ w.cell? a = some c.v) (fun c => .one (.v c.v))
    | _ => .bad
def sigStore (T : Tab) (st : St) (t : TypeId) (x y : Operand) : Sig := match get t T.ty, ev st.s x, ev st.s y with
  | some ti, some (.one (.p i o)), some v => match get i st.m with
    | some (.cells t' cs) => match cellsOf v with
      | some vs => match Nat.beq vs.length ti.size, Nat.ble (o + vs.length) cs.length with
        | true, true => .set i t' (cs.take o ++ (vs ++ cs.drop (o + vs.length)))
        | _, _ => .bad
      | none => .bad
    | _ => .bad
  | some ti, some (.one (.q i o)), some v => match get i st.m with
    | some (.own E z n xs) => match cellsOf v with
      | some vs => match plainOf vs with
        | some us => .setr (us.length = ti.size ∧ 0 < us.length ∧ o + us.length ≤ xs.length ∧ ∀ u ∈ us, u.oneCell' = true) i E z n (xs.take o ++ (us ++ xs.drop (o + us.length)))
        | none => .bad
      | none => .bad
    | _ => .bad
  | _, _, _ => .bad
def sigFieldAddr (T : Tab) (st : St) (t : TypeId) (x : Operand) (j : Nat) : Sig := match get t T.fld with
  | none => .bad
  | some fs => match fs[j]? with
    | none => .bad
    | some (off, ft) => match get ft T.ty with
      | none => .bad
      | some ti => match ti.size, ev st.s x with
        | _ + 1, some (.one (.p i o)) => .det (.one (.p i (o + off)))
        | _ + 1, some (.one (.v (.pointer (some a)))) => .det (.one (.v (.pointer (some (a.add off)))))
        | _, _ => .bad
def sigField (T : Tab) (st : St) (t : TypeId) (x : Operand) (j : Nat) : Sig := match get t T.fld with
  | none => .bad
  | some fs => match fs[j]? with
    | none => .bad
    | some (off, ft) => match get ft T.ty, ev st.s x with
      | some ti, some v => match aggOf v with
        | some cs => match partOf ti cs off with
          | some u => .det u
          | none => .bad
        | none => .bad
      | _, _ => .bad
def sigIndexAddr (T : Tab) (st : St) (t : TypeId) (x ix : Operand) : Sig := match get t T.u with
  | some (.slice E) => match get E T.ty, ev st.s x, ev st.s ix with
    | some ti, some (.one (.v (.slice A n c))), some (.one (.v (.int k i))) => .pick (fun ch => i = (ch.n : Int) ∧ ch.n < n ∧ ∀ w, AllF st.f w → A.isSome = true) (fun ch => .one (.v (.pointer (A.map fun a => a.add (ch.n * ti.size)))))
    | some ti, some (.one (.sl j o n c)), some (.one (.v (.int k i))) => .pick (fun ch => i = (ch.n : Int) ∧ ch.n < n) (fun ch => .one (.p j (o + ch.n * ti.size)))
    | some ti, some (.one (.row j)), some (.one (.v (.int k i))) => match get j st.m with
      | some (.own E' z n xs) => .pick (fun ch => i = (ch.n : Int) ∧ ch.n < n ∧ z = ti.size) (fun ch => .one (.q j (ch.n * z)))
      | _ => .bad
    | _, _, _ => .bad
  | some (.array n E) => match get E T.ty, ev st.s x, ev st.s ix with
    | some ti, some (.one (.p j o)), some (.one (.v (.int k i))) => .pick (fun ch => i = (ch.n : Int) ∧ ch.n < n) (fun ch => .one (.p j (o + ch.n * ti.size)))
    | _, _, _ => .bad
  | _ => .bad
def ixOb (ti : TyI) (cs : List SA) (ch : Ch) : Prop := match ch.u with
  | none => (partOf ti cs (ch.n * ti.size)).isSome = true
  | some u => partOf ti cs (ch.n * ti.size) = some u
def ixV (ti : TyI) (cs : List SA) (ch : Ch) : SV := match ch.u with
  | none => (partOf ti cs (ch.n * ti.size)).getD (.one (.v undef))
  | some u => u
theorem ix_ok {ti : TyI} {cs : List SA} {ch : Ch} (h : ixOb ti cs ch) : ∃ u, partOf ti cs (ch.n * ti.size) = some u ∧ ixV ti cs ch = u := by
  unfold ixOb at h
  unfold ixV
  cases hcu : ch.u with
  | none =>
    rw [hcu] at h
    obtain ⟨u, hu2⟩ := Option.isSome_iff_exists.1 h
    exact ⟨u, hu2, by simp [hu2]⟩
  | some u =>
    rw [hcu] at h
    exact ⟨u, h, rfl⟩
def sigIndex (T : Tab) (st : St) (t : TypeId) (x ix : Operand) : Sig := match get t T.u, ev st.s x, ev st.s ix with
  | some (.array n E), some v, some (.one (.v (.int k i))) => match get E T.ty, aggOf v with
    | some ti, some cs => .pick (fun ch => i = (ch.n : Int) ∧ ch.n < n ∧ ixOb ti cs ch) (fun ch => ixV ti cs ch)
    | _, _ => .bad
  | some .string, some (.one (.v (.string s))), some (.one (.v (.int k i))) => .pick (fun ch => i = (ch.n : Int) ∧ ch.n < s.size) (fun ch => .one (.v (.int .u8 ((s.data.toList.getD ch.n 0).toNat : Int))))
  | _, _, _ => .bad
end Go.Proofs.Sym
end
