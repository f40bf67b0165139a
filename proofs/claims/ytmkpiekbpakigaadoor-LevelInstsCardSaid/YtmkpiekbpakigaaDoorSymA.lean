/- Symbolic states: values, own memory and lasting facts, and what they say of a frame and a world. -/
import Derived.Test.YtmkpiekbpakigaaDoorMono
set_option linter.unusedVariables false
set_option linter.unusedSimpArgs false
namespace Go.Proofs.Sym
open Go.RowKit Go.Proofs.Base Go.Proofs.Mono

/-- The first entry under a number. -/
def get {α : Type _} (i : Nat) : List (Nat × α) → Option α
  | [] => none
  | (j, x) :: r => match Nat.beq i j with
    | true => some x
    | false => get i r

theorem get_self {α : Type _} (i : Nat) (x : α) (r : List (Nat × α)) : get i ((i, x) :: r) = some x := by simp [get]
theorem get_ne {α : Type _} {i j : Nat} (h : i ≠ j) (x : α) (r : List (Nat × α)) : get i ((j, x) :: r) = get i r := by
  have : Nat.beq i j = false := by rw [← Bool.not_eq_true, Nat.beq_eq]; exact h
  simp only [get, this]
theorem get_cons {α : Type _} {i j : Nat} {x y : α} {r : List (Nat × α)} (h : get i ((j, x) :: r) = some y) : (i = j ∧ x = y) ∨ (i ≠ j ∧ get i r = some y) := by
  by_cases e : i = j
  · subst e
    rw [get_self] at h
    exact .inl ⟨rfl, Option.some.inj h⟩
  · rw [get_ne e] at h
    exact .inr ⟨e, h⟩

/-- Which block, and which slice, a number of the state stands for. -/
structure Env where
  blk : Nat → Nat
  row : Nat → Option Addr × Nat × Nat
def Env.rv (e : Env) (i : Nat) : Value := .slice (e.row i).1 (e.row i).2.1 (e.row i).2.2
inductive Cap where
  | p (i : Nat)
  | v (x : Value)
/-- A value of one cell: plain, or one that points into own memory. -/
inductive SA where
  | v (x : Value)
  | p (i off : Nat)
  | sl (i off n c : Nat)
  | row (i : Nat)
  | q (i off : Nat)
  | fn (f : FuncId) (fs cs : List Cap)
inductive TV where
  | one (x : SA)
  | agg (xs : List SA)
inductive SV where
  | one (x : SA)
  | agg (xs : List SA)
  | tup (xs : List TV)
/-- A block of own memory: gone, known whole, or a row that may have room behind it. -/
inductive LB where
  | dead
  | cells (t : TypeId) (cs : List SA)
  | own (E : TypeId) (size n : Nat) (xs : List Value)
structure St where
  s : List (Nat × SV)
  m : List (Nat × LB)
  k : Nat
  f : List (World → Prop)
  b : Nat := 0

def Cap.real (e : Env) : Cap → Value
  | .p i => .pointer (some ⟨e.blk i, 0, none⟩)
  | .v x => x
def SA.real (e : Env) : SA → Value
  | .v x => x
  | .p i o => .pointer (some ⟨e.blk i, o, none⟩)
  | .sl i o n c => .slice (some ⟨e.blk i, o, none⟩) n c
  | .row i => e.rv i
  | .q i o => .pointer ((e.row i).1.map fun a => ⟨a.block, o, none⟩)
  | .fn f fs cs => .func (.func f) (fs.map (Cap.real e)).toArray (cs.map (Cap.real e)).toArray
def reals (e : Env) (xs : List SA) : List Value := xs.map (SA.real e)
def TV.real (e : Env) : TV → Value
  | .one x => x.real e
  | .agg xs => .agg (reals e xs).toArray
def SV.real (e : Env) : SV → Value
  | .one x => x.real e
  | .agg xs => .agg (reals e xs).toArray
  | .tup xs => .tuple (xs.map (TV.real e)).toArray

def Cap.lt (k : Nat) : Cap → Prop
  | .p i => i < k
  | .v _ => True
/-- One cell, of numbers below k. -/
def SA.lt (k : Nat) : SA → Prop
  | .v x => x.oneCell' = true
  | .p i _ | .sl i _ _ _ | .row i | .q i _ => i < k
  | .fn _ fs cs => (∀ c ∈ fs, c.lt k) ∧ ∀ c ∈ cs, c.lt k
def SA.lt0 (k : Nat) : SA → Prop
  | .v _ => True
  | x => x.lt k
def TV.lt (k : Nat) : TV → Prop
  | .one x => x.lt0 k
  | .agg xs => ∀ x ∈ xs, x.lt k
def SV.lt (k : Nat) : SV → Prop
  | .one x => x.lt0 k
  | .agg xs => ∀ x ∈ xs, x.lt k
  | .tup xs => ∀ x ∈ xs, x.lt k
def LB.lt (k : Nat) : LB → Prop
  | .cells _ cs => ∀ c ∈ cs, c.lt k
  | _ => True

/-- The same below a number. -/
def Env.eqTo (k : Nat) (e e' : Env) : Prop := ∀ i, i < k → e'.blk i = e.blk i ∧ e'.row i = e.row i
theorem Env.eqTo.refl (k : Nat) (e : Env) : e.eqTo k e := fun _ _ => ⟨rfl, rfl⟩
theorem Env.eqTo.trans {k : Nat} {a b c : Env} (h : a.eqTo k b) (h' : b.eqTo k c) : a.eqTo k c := fun i hi => ⟨(h' i hi).1.trans (h i hi).1, (h' i hi).2.trans (h i hi).2⟩
theorem Env.eqTo.mono {k k' : Nat} {a b : Env} (h : a.eqTo k b) (hk : k' ≤ k) : a.eqTo k' b := fun i hi => h i (by omega)

theorem Cap.real_eq {k : Nat} {e e' : Env} (h : e.eqTo k e') : ∀ {x : Cap}, x.lt k → x.real e' = x.real e
  | .p i, hx => by simp only [Cap.real, (h i hx).1]
  | .v _, _ => rfl
theorem caps_eq {k : Nat} {e e' : Env} (h : e.eqTo k e') {xs : List Cap} (hx : ∀ x ∈ xs, x.lt k) : xs.map (Cap.real e') = xs.map (Cap.real e) :=
  List.map_congr_left fun x m => Cap.real_eq h (hx x m)
theorem SA.real_eq {k : Nat} {e e' : Env} (h : e.eqTo k e') : ∀ {x : SA}, x.lt k → x.real e' = x.real e
  | .v _, _ => rfl
  | .p i o, hx => by simp only [SA.real, (h i hx).1]
  | .sl i o n c, hx => by simp only [SA.real, (h i hx).1]
  | .row i, hx => by simp only [SA.real, Env.rv, (h i hx).2]
  | .q i o, hx => by simp only [SA.real, (h i hx).2]
  | .fn f fs cs, hx => by simp only [SA.real, caps_eq h hx.1, caps_eq h hx.2]
theorem reals_eq {k : Nat} {e e' : Env} (h : e.eqTo k e') {xs : List SA} (hx : ∀ x ∈ xs, x.lt k) : reals e' xs = reals e xs :=
  List.map_congr_left fun x m => SA.real_eq h (hx x m)
theorem SA.lt0_of {k : Nat} : ∀ {x : SA}, x.lt k → x.lt0 k
  | .v _, _ => trivial
  | .p _ _, hx => hx
  | .sl _ _ _ _, hx => hx
  | .row _, hx => hx
  | .q _ _, hx => hx
  | .fn _ _ _, hx => hx
theorem SA.real_eq0 {k : Nat} {e e' : Env} (h : e.eqTo k e') : ∀ {x : SA}, x.lt0 k → x.real e' = x.real e
  | .v _, _ => rfl
  | .p i o, hx => SA.real_eq (x := .p i o) h hx
  | .sl i o n c, hx => SA.real_eq (x := .sl i o n c) h hx
  | .row i, hx => SA.real_eq (x := .row i) h hx
  | .q i o, hx => SA.real_eq (x := .q i o) h hx
  | .fn f fs cs, hx => SA.real_eq (x := .fn f fs cs) h hx
theorem TV.real_eq {k : Nat} {e e' : Env} (h : e.eqTo k e') : ∀ {x : TV}, x.lt k → x.real e' = x.real e
  | .one x, hx => SA.real_eq0 (x := x) h hx
  | .agg xs, hx => by simp only [TV.real, reals_eq h hx]
theorem SV.real_eq {k : Nat} {e e' : Env} (h : e.eqTo k e') : ∀ {x : SV}, x.lt k → x.real e' = x.real e
  | .one x, hx => SA.real_eq0 (x := x) h hx
  | .agg xs, hx => by simp only [SV.real, reals_eq h hx]
  | .tup xs, hx => by
    simp only [SV.real]
    rw [List.map_congr_left fun x m => TV.real_eq h (hx x m)]
theorem Cap.lt_mono {k k' : Nat} (hk : k ≤ k') : ∀ {x : Cap}, x.lt k → x.lt k'
  | .p i, hx => Nat.lt_of_lt_of_le hx hk
  | .v _, _ => trivial
theorem SA.lt_mono {k k' : Nat} (hk : k ≤ k') : ∀ {x : SA}, x.lt k → x.lt k'
  | .v _, hx => hx
  | .p i o, hx => Nat.lt_of_lt_of_le hx hk
  | .sl i o n c, hx => Nat.lt_of_lt_of_le hx hk
  | .row i, hx => Nat.lt_of_lt_of_le hx hk
  | .q i o, hx => Nat.lt_of_lt_of_le hx hk
  | .fn f fs cs, hx => ⟨fun c m => Cap.lt_mono hk (hx.1 c m), fun c m => Cap.lt_mono hk (hx.2 c m)⟩
theorem SA.lt0_mono {k k' : Nat} (hk : k ≤ k') : ∀ {x : SA}, x.lt0 k → x.lt0 k'
  | .v _, _ => trivial
  | .p i o, hx => SA.lt_mono (x := .p i o) hk hx
  | .sl i o n c, hx => SA.lt_mono (x := .sl i o n c) hk hx
  | .row i, hx => SA.lt_mono (x := .row i) hk hx
  | .q i o, hx => SA.lt_mono (x := .q i o) hk hx
  | .fn f fs cs, hx => SA.lt_mono (x := .fn f fs cs) hk hx
theorem TV.lt_mono {k k' : Nat} (hk : k ≤ k') : ∀ {x : TV}, x.lt k → x.lt k'
  | .one x, hx => SA.lt0_mono (x := x) hk hx
  | .agg xs, hx => fun x m => SA.lt_mono hk (hx x m)
theorem SV.lt_mono {k k' : Nat} (hk : k ≤ k') : ∀ {x : SV}, x.lt k → x.lt k'
  | .one x, hx => SA.lt0_mono (x := x) hk hx
  | .agg xs, hx => fun x m => SA.lt_mono hk (hx x m)
  | .tup xs, hx => fun x m => TV.lt_mono hk (hx x m)
theorem LB.lt_mono {k k' : Nat} (hk : k ≤ k') : ∀ {x : LB}, x.lt k → x.lt k'
  | .dead, _ => trivial
  | .own .., _ => trivial
  | .cells t cs, hx => fun x m => SA.lt_mono hk (hx x m)

/-! ### Hidden memory and lasting facts -/
def dum : Obj := .deferred none
open Classical in
/-- The world without some blocks. -/
noncomputable def hide (H : Nat → Prop) (w : World) : World := { w with heap := w.heap.mapIdx fun g o => if H g then dum else o }
open Classical in
theorem hide_get (H : Nat → Prop) (w : World) (g : Nat) : (hide H w).heap[g]? = (w.heap[g]?).map fun o => if H g then dum else o := by
  simp [hide]
/-- What one world holds, the other one does. -/
def Sub (w w' : World) : Prop := ∀ (g : Nat) (o : Obj), w.heap[g]? = some o → o ≠ dum → w'.heap[g]? = some o
theorem Sub.refl (w : World) : Sub w w := fun _ _ h _ => h
theorem Sub.trans {a b c : World} (h : Sub a b) (h' : Sub b c) : Sub a c := fun g o hg ho => h' g o (h g o hg ho) ho
theorem hide_sub (H : Nat → Prop) (w : World) : Sub (hide H w) w := by
  intro g o hg ho
  rw [hide_get] at hg
  cases hw : w.heap[g]? with
  | none => rw [hw] at hg; simp at hg
  | some x =>
    rw [hw] at hg
    simp only [Option.map_some, Option.some.injEq] at hg
    split at hg
    · exact absurd hg.symm ho
    · rw [hg]
theorem hide_ext {H H' : Nat → Prop} {w w' : World} (h : ∀ (g : Nat) (o : Obj), w.heap[g]? = some o → ¬ H g → w'.heap[g]? = some o ∧ ¬ H' g) : Sub (hide H w) (hide H' w') := by
  intro g o hg ho
  rw [hide_get] at hg
  cases hw : w.heap[g]? with
  | none => rw [hw] at hg; simp at hg
  | some x =>
    rw [hw] at hg
    simp only [Option.map_some, Option.some.injEq] at hg
    split at hg
    · exact absurd hg.symm ho
    · rename_i hn
      subst hg
      obtain ⟨h1, h2⟩ := h g x hw hn
      rw [hide_get, h1]
      simp [h2]
/-- A fact that lasts. -/
def Up (F : World → Prop) : Prop := ∀ w w', Sub w w' → F w → F w'
theorem Up.true : Up fun _ => True := fun _ _ _ _ => trivial
theorem Up.pure (p : Prop) : Up fun _ => p := fun _ _ _ h => h
theorem Up.and {F G : World → Prop} (hF : Up F) (hG : Up G) : Up fun w => F w ∧ G w := fun w w' h x => ⟨hF w w' h x.1, hG w w' h x.2⟩
theorem Up.ex {α : Sort _} {F : α → World → Prop} (h : ∀ x, Up (F x)) : Up fun w => ∃ x, F x w := fun w w' hs ⟨x, hx⟩ => ⟨x, h x w w' hs hx⟩
theorem Up.all {α : Sort _} {F : α → World → Prop} (h : ∀ x, Up (F x)) : Up fun w => ∀ x, F x w := fun w w' hs hx x => h x w w' hs (hx x)
theorem Up.imp {p : Prop} {F : World → Prop} (h : Up F) : Up fun w => p → F w := fun w w' hs hx hp => h w w' hs (hx hp)
theorem Sub.cell {w w' : World} (h : Sub w w') {a : Addr} {v : Value} (hc : w.cell? a = some v) : w'.cell? a = some v := by
  unfold World.cell? at *
  cases hg : w.heap[a.block]? with
  | none => rw [hg] at hc; simp at hc
  | some o =>
    rw [hg] at hc
    cases o with
    | cells c t fz => rw [h a.block _ hg (by intro e; cases e)]; exact hc
    | _ => simp at hc
theorem Up.cell (a : Addr) (v : Value) : Up fun w => w.cell? a = some v := fun _ _ h hc => h.cell hc
theorem Up.block (g : Nat) (o : Obj) (ho : o ≠ dum) : Up fun w => w.heap[g]? = some o := fun _ _ h hc => h g o hc ho
def AllF : List (World → Prop) → World → Prop
  | [], _ => True
  | F :: r, w => F w ∧ AllF r w
theorem allF_iff {f : List (World → Prop)} {w : World} : AllF f w ↔ ∀ F ∈ f, F w := by
  induction f with
  | nil => simp [AllF]
  | cons F r ih => simp [AllF, ih]
theorem Up.allF {f : List (World → Prop)} (h : ∀ F ∈ f, Up F) : Up (AllF f) := by
  intro w w' hs hf
  rw [allF_iff] at *
  exact fun F hF => h F hF w w' hs (hf F hF)

/-! ### What a state says -/
def LB.block (e : Env) (i : Nat) : LB → Option Nat
  | .dead => none
  | .cells _ _ => some (e.blk i)
  | .own .. => (e.rv i).ownBlock
/-- Block g is that of number i. -/
def At (e : Env) (m : List (Nat × LB)) (i g : Nat) : Prop := ∃ b, get i m = some b ∧ b.block e i = some g
def Own (e : Env) (m : List (Nat × LB)) (g : Nat) : Prop := ∃ i, At e m i g

/-- Of the old world's blocks only those in G may have changed. -/
structure Fr (G : Nat → Prop) (w0 w : World) : Prop where
  os : w.os = w0.os
  tape : w.tape = w0.tape
  output : w.output = w0.output
  size : w0.heap.size ≤ w.heap.size
  block : ∀ g, g < w0.heap.size → ¬ G g → w.heap[g]? = w0.heap[g]?
theorem Fr.refl (G : Nat → Prop) (w : World) : Fr G w w := ⟨rfl, rfl, rfl, Nat.le_refl _, fun _ _ _ => rfl⟩
theorem Fr.trans {G : Nat → Prop} {G' : Nat → Prop} {a b c : World} (h : Fr G a b) (h' : Fr G' b c) (hG : ∀ g, g < a.heap.size → G' g → G g) : Fr G a c :=
  ⟨h'.os.trans h.os, h'.tape.trans h.tape, h'.output.trans h.output, Nat.le_trans h.size h'.size, fun g hg hn => (h'.block g (Nat.lt_of_lt_of_le hg h.size) (fun x => hn (hG g hg x))).trans (h.block g hg hn)⟩
theorem Fr.below {w0 w : World} (h : Fr (fun _ => False) w0 w) : Below w0.heap.size w0 w := ⟨h.os, h.tape, h.output, h.size, fun g hg => h.block g hg id⟩
theorem Fr.of_below {G : Nat → Prop} {w0 w : World} (h : Below w0.heap.size w0 w) : Fr G w0 w := ⟨h.os, h.tape, h.output, h.size, fun g hg _ => h.block g hg⟩

/-- What stays the same through a call: the world before it, the blocks that it may write, the blocks that no fact speaks of, the numbers given. -/
structure Cx where
  w0 : World
  G : Nat → Prop
  H : Nat → Prop
  hH : ∀ g, H g → g < w0.heap.size
  hG : ∀ g, G g → ¬ H g
  e0 : Env
  n0 : Nat
  n : Nat

structure Mem (cx : Cx) (e : Env) (m : List (Nat × LB)) (k : Nat) (f : List (World → Prop)) (w : World) : Prop where
  fr : Fr cx.G cx.w0 w
  ids : ∀ i, i < cx.n0 → e.blk i = cx.e0.blk i
  low : cx.n0 ≤ k
  cells : ∀ i t cs, get i m = some (.cells t cs) → Blk w (e.blk i) t (reals e cs).toArray
  own : ∀ i E z n xs, get i m = some (.own E z n xs) → w.ownsRow 0 E z (e.rv i) n xs
  sc : ∀ i b, get i m = some b → i < k ∧ b.lt k
  free : ∀ i g, At e m i g → cx.w0.heap.size ≤ g ∨ cx.G g
  apart : ∀ i j g, At e m i g → At e m j g → i = j
  up : ∀ F ∈ f, Up F
  facts : ∀ F ∈ f, F (hide (fun g => cx.H g ∨ Own e m g) w)

structure Sat (cx : Cx) (e : Env) (st : St) (a : Act) (w : World) : Prop where
  base : cx.n0 = st.b
  size : a.tmps.size = cx.n
  defers : a.defers = []
  slots : ∀ i v, get i st.s = some v → v.lt st.k ∧ a.tmps[i]? = some (v.real e)
  mem : Mem cx e st.m st.k st.f w

section
variable {cx : Cx} {e : Env} {m : List (Nat × LB)} {k : Nat} {f : List (World → Prop)} {w w' : World}

theorem Mem.lt (h : Mem cx e m k f w) {i g : Nat} (hg : At e m i g) : g < w.heap.size := by
  obtain ⟨b, hb, hg⟩ := hg
  cases b with
  | dead => cases hg
  | cells t cs => cases hg; exact (h.cells i t cs hb).lt
  | own E z n xs => exact ((h.own i E z n xs hb).lt g hg).2
theorem Mem.fact (h : Mem cx e m k f w) : AllF f w := by
  rw [allF_iff]
  exact fun F hF => h.up F hF _ _ (hide_sub _ w) (h.facts F hF)
theorem Mem.hidden (h : Mem cx e m k f w) : AllF f (hide (fun g => cx.H g ∨ Own e m g) w) := by
  rw [allF_iff]
  exact h.facts
/-- The world has only grown. -/
theorem Mem.later (h : Mem cx e m k f w) (hl : Later w w') : Mem cx e m k f w' := by
  refine ⟨h.fr.trans (G' := fun _ => False) (.of_below hl) (fun _ _ x => x.elim), h.ids, h.low, fun i t cs hi => (h.cells i t cs hi).bel hl, fun i E z n xs hi => own_bel (h.own i E z n xs hi) hl, h.sc, h.free, h.apart, h.up, fun F hF => ?_⟩
  refine h.up F hF _ _ (hide_ext fun g o hg hn => ⟨?_, hn⟩) (h.facts F hF)
  rw [hl.block g (Array.getElem?_eq_some_iff.1 hg).1, hg]
/-- A fact more. -/
theorem Mem.add (h : Mem cx e m k f w) {F : World → Prop} (hu : Up F) (hF : F (hide (fun g => cx.H g ∨ Own e m g) w)) : Mem cx e m k (F :: f) w := by
  refine ⟨h.fr, h.ids, h.low, h.cells, h.own, h.sc, h.free, h.apart, fun G hG => ?_, fun G hG => ?_⟩
  · rcases List.mem_cons.1 hG with rfl | hG
    · exact hu
    · exact h.up G hG
  · rcases List.mem_cons.1 hG with rfl | hG
    · exact hF
    · exact h.facts G hG
theorem Mem.next (h : Mem cx e m k f w) {k' : Nat} (hk : k ≤ k') : Mem cx e m k' f w :=
  ⟨h.fr, h.ids, Nat.le_trans h.low hk, h.cells, h.own, fun i b hi => ⟨Nat.lt_of_lt_of_le (h.sc i b hi).1 hk, LB.lt_mono hk (h.sc i b hi).2⟩, h.free, h.apart, h.up, h.facts⟩

/-- A block of another number in the environment. -/
def Env.setBlk (e : Env) (i g : Nat) : Env := { e with blk := fun j => if j = i then g else e.blk j }
def Env.setRow (e : Env) (i : Nat) (v : Option Addr × Nat × Nat) : Env := { e with row := fun j => if j = i then v else e.row j }
theorem Env.eqTo_blk (e : Env) (k g : Nat) : e.eqTo k (e.setBlk k g) := fun i hi => ⟨by simp [Env.setBlk, Nat.ne_of_lt hi], rfl⟩
theorem Env.eqTo_row (e : Env) (k : Nat) (v : Option Addr × Nat × Nat) : e.eqTo k (e.setRow k v) := fun i hi => ⟨rfl, by simp [Env.setRow, Nat.ne_of_lt hi]⟩
theorem Env.setBlk_self (e : Env) (k g : Nat) : (e.setBlk k g).blk k = g := by simp [Env.setBlk]
theorem Env.setRow_self (e : Env) (k : Nat) (v : Option Addr × Nat × Nat) : (e.setRow k v).rv k = .slice v.1 v.2.1 v.2.2 := by simp [Env.setRow, Env.rv]

theorem LB.block_eq {e e' : Env} {k i : Nat} (h : e.eqTo k e') (hi : i < k) : ∀ b : LB, b.block e' i = b.block e i
  | .dead => rfl
  | .cells _ _ => by simp only [LB.block, (h i hi).1]
  | .own .. => by simp only [LB.block, Env.rv, (h i hi).2]
theorem Mem.at_eq (h : Mem cx e m k f w) {e' : Env} (he : e.eqTo k e') {i g : Nat} : At e' m i g ↔ At e m i g := by
  constructor
  · rintro ⟨b, hb, hg⟩
    exact ⟨b, hb, by rw [← LB.block_eq he (h.sc i b hb).1]; exact hg⟩
  · rintro ⟨b, hb, hg⟩
    exact ⟨b, hb, by rw [LB.block_eq he (h.sc i b hb).1]; exact hg⟩
theorem Mem.env (h : Mem cx e m k f w) {e' : Env} (he : e.eqTo k e') : Mem cx e' m k f w := by
  refine ⟨h.fr, fun i hi => ((he i (Nat.lt_of_lt_of_le hi h.low)).1).trans (h.ids i hi), h.low, fun i t cs hi => ?_, fun i E z n xs hi => ?_, h.sc, fun i g hg => h.free i g ((h.at_eq he).1 hg), fun i j g hi hj => h.apart i j g ((h.at_eq he).1 hi) ((h.at_eq he).1 hj), h.up, fun F hF => ?_⟩
  · rw [(he i (h.sc i _ hi).1).1, reals_eq he (h.sc i _ hi).2]
    exact h.cells i t cs hi
  · simp only [Env.rv, (he i (h.sc i _ hi).1).2]
    exact h.own i E z n xs hi
  · refine h.up F hF _ _ (hide_ext fun g o hg hn => ⟨hg, fun hx => hn ?_⟩) (h.facts F hF)
    rcases hx with hx | ⟨i, hx⟩
    · exact .inl hx
    · exact .inr ⟨i, (h.at_eq he).1 hx⟩

/-- A new block, known whole. -/
theorem Mem.new (h : Mem cx e m k f w) (t : TypeId) (cs : List SA) (hc : ∀ c ∈ cs, c.lt k) :
    Mem cx (e.setBlk k w.heap.size) ((k, .cells t cs) :: m) (k + 1) f (w.alloc (.cells (reals e cs).toArray t)) := by
  have hl : Later w (w.alloc (.cells (reals e cs).toArray t)) := Below.alloc (Below.refl _ _) (Nat.le_refl _) _
  have h1 := ((h.later hl).env (e.eqTo_blk k w.heap.size)).next (Nat.le_succ k)
  have hfree : ∀ {i b}, get i m = some b → i ≠ k := fun hi => Nat.ne_of_lt (h.sc _ _ hi).1
  have hat : ∀ {i g}, At (e.setBlk k w.heap.size) ((k, LB.cells t cs) :: m) i g → (i = k ∧ g = w.heap.size) ∨ (i ≠ k ∧ At (e.setBlk k w.heap.size) m i g) := by
    rintro i g ⟨b, hb, hg⟩
    rcases get_cons hb with ⟨rfl, rfl⟩ | ⟨hne, hb⟩
    · simp only [LB.block, Env.setBlk_self, Option.some.injEq] at hg
      exact .inl ⟨rfl, hg.symm⟩
    · exact .inr ⟨hne, b, hb, hg⟩
  have hold : ∀ {i g}, At (e.setBlk k w.heap.size) m i g → g < w.heap.size := fun hg => h.lt ((h.at_eq (e.eqTo_blk k _)).1 hg)
  refine ⟨h1.fr, h1.ids, h1.low, fun i t' cs' hi => ?_, fun i E z n xs hi => ?_, fun i b hi => ?_, fun i g hg => ?_, fun i j g hi hj => ?_, h1.up, fun F hF => ?_⟩
  · rcases get_cons hi with ⟨rfl, e1⟩ | ⟨hne, hi⟩
    · cases e1
      rw [Env.setBlk_self, reals_eq (e.eqTo_blk i _) hc]
      exact Blk.new _ _ _
    · exact h1.cells i t' cs' hi
  · rcases get_cons hi with ⟨rfl, e1⟩ | ⟨hne, hi⟩
    · cases e1
    · exact h1.own i E z n xs hi
  · rcases get_cons hi with ⟨rfl, e1⟩ | ⟨hne, hi⟩
    · subst e1
      exact ⟨Nat.lt_succ_self _, fun c hm => SA.lt_mono (Nat.le_succ _) (hc c hm)⟩
    · exact h1.sc i b hi
  · rcases hat hg with ⟨rfl, rfl⟩ | ⟨hne, hg⟩
    · exact .inl h.fr.size
    · exact h1.free i g hg
  · rcases hat hi with ⟨rfl, rfl⟩ | ⟨hne, hi⟩
    · rcases hat hj with ⟨rfl, _⟩ | ⟨_, hj⟩
      · rfl
      · have := hold hj; omega
    · rcases hat hj with ⟨rfl, rfl⟩ | ⟨_, hj⟩
      · have := hold hi; omega
      · exact h1.apart i j g hi hj
  · refine h.up F hF _ _ (hide_ext fun g o hg hn => ?_) (h.facts F hF)
    have hgs := (Array.getElem?_eq_some_iff.1 hg).1
    refine ⟨by rw [hl.block g hgs, hg], fun hx => hn ?_⟩
    rcases hx with hx | ⟨i, hx⟩
    · exact .inl hx
    · rcases hat hx with ⟨rfl, rfl⟩ | ⟨_, hx⟩
      · omega
      · exact .inr ⟨i, (h.at_eq (e.eqTo_blk k _)).1 hx⟩

/-- An own block has other cells. -/
theorem Mem.set (h : Mem cx e m k f w) {i : Nat} {t : TypeId} {cs cs' : List SA} (hi : get i m = some (.cells t cs)) (hc : ∀ c ∈ cs', c.lt k)
    (hb : Blk w' (e.blk i) t (reals e cs').toArray) (hk : ∀ g, g ≠ e.blk i → w'.heap[g]? = w.heap[g]?) (hos : w'.os = w.os) (htp : w'.tape = w.tape) (hout : w'.output = w.output) (hsz : w'.heap.size = w.heap.size) :
    Mem cx e ((i, .cells t cs') :: m) k f w' := by
  have hat : ∀ {j g}, At e ((i, LB.cells t cs') :: m) j g ↔ At e m j g := by
    intro j g
    constructor
    · rintro ⟨b, hb, hg⟩
      rcases get_cons hb with ⟨rfl, rfl⟩ | ⟨hne, hb⟩
      · exact ⟨_, hi, hg⟩
      · exact ⟨b, hb, hg⟩
    · rintro ⟨b, hb2, hg⟩
      by_cases e1 : j = i
      · subst e1
        rw [hi] at hb2
        cases hb2
        exact ⟨_, get_self _ _ _, hg⟩
      · exact ⟨b, by rw [get_ne e1]; exact hb2, hg⟩
  have hme : At e m i (e.blk i) := ⟨_, hi, rfl⟩
  have hother : ∀ {j b g}, j ≠ i → get j m = some b → b.block e j = some g → w'.heap[g]? = w.heap[g]? := fun hj hb hg => hk _ fun e1 => hj (h.apart _ _ _ ⟨_, hb, hg⟩ (e1 ▸ hme))
  refine ⟨⟨hos.trans h.fr.os, htp.trans h.fr.tape, hout.trans h.fr.output, by rw [hsz]; exact h.fr.size, fun g hg hn => ?_⟩, h.ids, h.low, fun j t' cs2 hj => ?_, fun j E z n xs hj => ?_, fun j b hj => ?_, fun j g hg => h.free j g (hat.1 hg), fun j l g hj hl => h.apart j l g (hat.1 hj) (hat.1 hl), h.up, fun F hF => ?_⟩
  · rw [hk g fun e1 => ?_]
    · exact h.fr.block g hg hn
    · rcases h.free i g (e1 ▸ hme) with h1 | h1
      · omega
      · exact hn h1
  · rcases get_cons hj with ⟨rfl, e1⟩ | ⟨hne, hj⟩
    · cases e1
      exact hb
    · exact (hother hne hj rfl).trans (h.cells j t' cs2 hj)
  · rcases get_cons hj with ⟨rfl, e1⟩ | ⟨hne, hj⟩
    · cases e1
    · exact own_heap (h.own j E z n xs hj) fun g hg => hother hne hj hg
  · rcases get_cons hj with ⟨rfl, e1⟩ | ⟨hne, hj⟩
    · subst e1
      exact ⟨(h.sc _ _ hi).1, hc⟩
    · exact h.sc j b hj
  · refine h.up F hF _ _ (hide_ext fun g o hg hn => ?_) (h.facts F hF)
    refine ⟨by rw [hk g (fun e1 => hn (.inr ⟨i, e1 ▸ hme⟩)), hg], fun hx => hn ?_⟩
    rcases hx with hx | ⟨j, hx⟩
    · exact .inl hx
    · exact .inr ⟨j, hat.1 hx⟩

def kill : Option Nat → List (Nat × LB) → List (Nat × LB)
  | some i, m => (i, LB.dead) :: m
  | none, m => m
/-- The block that a row is grown from. -/
def oldBlk (e : Env) (m : List (Nat × LB)) : Option Nat → Option Nat
  | none => none
  | some i => (get i m).bind fun b => b.block e i
/-- A row is written anew, from an elder one or from nothing. -/
theorem Mem.grow (h : Mem cx e m k f w) {v : Option Addr × Nat × Nat} {E : TypeId} {z n : Nat} {xs : List Value} (old : Option Nat) (hold : ∀ i, old = some i → i < k)
    (hg : w.grownBy w' (oldBlk e m old)) (hown : w'.ownsRow 0 E z (.slice v.1 v.2.1 v.2.2) n xs)
    (hnew : ∀ g, (Value.slice v.1 v.2.1 v.2.2).ownBlock = some g → w.heap.size ≤ g ∨ oldBlk e m old = some g) :
    Mem cx (e.setRow k v) ((k, .own E z n xs) :: kill old m) (k + 1) f w' := by
  obtain ⟨m1, hm1⟩ : ∃ m1, m1 = kill old m := ⟨_, rfl⟩
  rw [← hm1]
  have hsub : ∀ {j b}, get j m1 = some b → b = .dead ∨ (get j m = some b ∧ old ≠ some j) := by
    intro j b hj
    cases old with
    | none => simp only [kill] at hm1; subst hm1; exact .inr ⟨hj, fun x => by cases x⟩
    | some i =>
      simp only [kill] at hm1
      subst hm1
      rcases get_cons hj with ⟨rfl, rfl⟩ | ⟨hne, hj⟩
      · exact .inl rfl
      · exact .inr ⟨hj, fun x => hne (Option.some.inj x).symm⟩
  have hscd : ∀ {j b}, get j m1 = some b → j < k := by
    intro j b hj
    cases old with
    | none => simp only [kill] at hm1; subst hm1; exact (h.sc _ _ hj).1
    | some i =>
      simp only [kill] at hm1
      subst hm1
      rcases get_cons hj with ⟨rfl, rfl⟩ | ⟨hne, hj⟩
      · exact hold j rfl
      · exact (h.sc _ _ hj).1
  have hrow : ∀ {g}, oldBlk e m old = some g → ∃ i, old = some i ∧ At e m i g := by
    intro g h1
    cases old with
    | none => cases h1
    | some i =>
      simp only [oldBlk] at h1
      cases hb : get i m with
      | none => rw [hb] at h1; cases h1
      | some b =>
        rw [hb] at h1
        exact ⟨i, rfl, b, hb, h1⟩
  have heq := e.eqTo_row k v
  have hat1 : ∀ {j g}, At (e.setRow k v) m1 j g → At e m j g ∧ old ≠ some j := by
    rintro j g ⟨b, hb, hg⟩
    rcases hsub hb with rfl | ⟨hb, hne⟩
    · cases hg
    · exact ⟨(h.at_eq heq).1 ⟨b, hb, hg⟩, hne⟩
  have hat : ∀ {j g}, At (e.setRow k v) ((k, LB.own E z n xs) :: m1) j g → (j = k ∧ (Value.slice v.1 v.2.1 v.2.2).ownBlock = some g) ∨ (j ≠ k ∧ At e m j g ∧ old ≠ some j) := by
    rintro j g ⟨b, hb, hg⟩
    rcases get_cons hb with ⟨rfl, rfl⟩ | ⟨hne, hb⟩
    · simp only [LB.block, Env.setRow_self] at hg
      exact .inl ⟨rfl, hg⟩
    · exact .inr ⟨hne, hat1 ⟨b, hb, hg⟩⟩
  have hkeep : ∀ {j g}, At e m j g → old ≠ some j → w'.heap[g]? = w.heap[g]? := by
    intro j g hj hne
    refine hg.block g (h.lt hj) fun e1 => ?_
    obtain ⟨i, hi, hi2⟩ := hrow e1.symm
    exact hne (hi.trans (congrArg some (h.apart _ _ _ hi2 hj)))
  refine ⟨⟨hg.os.trans h.fr.os, hg.tape.trans h.fr.tape, hg.output.trans h.fr.output, Nat.le_trans h.fr.size hg.size, fun g hgs hn => ?_⟩, fun i hi => ((heq i (Nat.lt_of_lt_of_le hi h.low)).1).trans (h.ids i hi), Nat.le_succ_of_le h.low, fun j t cs hj => ?_, fun j E' z' n' xs' hj => ?_, fun j b hj => ?_, fun j g hj => ?_, fun j l g hj hl => ?_, h.up, fun F hF => ?_⟩
  · rw [hg.block g (Nat.lt_of_lt_of_le hgs h.fr.size) fun e1 => ?_]
    · exact h.fr.block g hgs hn
    · obtain ⟨i, hi, hi2⟩ := hrow e1.symm
      rcases h.free i g hi2 with h1 | h1
      · omega
      · exact hn h1
  · rcases get_cons hj with ⟨rfl, e1⟩ | ⟨hne, hj⟩
    · cases e1
    · rcases hsub hj with h1 | ⟨hj, hno⟩
      · cases h1
      · rw [(heq j (h.sc j _ hj).1).1, reals_eq heq (h.sc j _ hj).2]
        exact (hkeep ⟨_, hj, rfl⟩ hno).trans (h.cells j t cs hj)
  · rcases get_cons hj with ⟨rfl, e1⟩ | ⟨hne, hj⟩
    · cases e1
      rw [Env.setRow_self]
      exact hown
    · rcases hsub hj with h1 | ⟨hj, hno⟩
      · cases h1
      · simp only [Env.rv, (heq j (h.sc j _ hj).1).2]
        exact own_heap (h.own j _ _ _ _ hj) fun g hg2 => hkeep ⟨_, hj, hg2⟩ hno
  · rcases get_cons hj with ⟨rfl, e1⟩ | ⟨hne, hj⟩
    · subst e1
      exact ⟨Nat.lt_succ_self _, trivial⟩
    · refine ⟨Nat.lt_succ_of_lt (hscd hj), ?_⟩
      rcases hsub hj with rfl | ⟨hj, _⟩
      · trivial
      · exact LB.lt_mono (Nat.le_succ _) (h.sc j b hj).2
  · rcases hat hj with ⟨rfl, hv⟩ | ⟨_, hj, _⟩
    · rcases hnew g hv with h1 | h1
      · exact .inl (Nat.le_trans h.fr.size h1)
      · obtain ⟨i, _, hi2⟩ := hrow h1
        exact h.free i g hi2
    · exact h.free j g hj
  · rcases hat hj with ⟨hj0, hv⟩ | ⟨hj0, hj1, hjo⟩
    · rcases hat hl with ⟨hl0, _⟩ | ⟨hl0, hl1, hlo⟩
      · rw [hj0, hl0]
      · rcases hnew g hv with h1 | h1
        · have := h.lt hl1; omega
        · obtain ⟨i, hi, hi2⟩ := hrow h1
          exact absurd (hi.trans (congrArg some (h.apart _ _ _ hi2 hl1))) hlo
    · rcases hat hl with ⟨hl0, hv⟩ | ⟨hl0, hl1, hlo⟩
      · rcases hnew g hv with h1 | h1
        · have := h.lt hj1; omega
        · obtain ⟨i, hi, hi2⟩ := hrow h1
          exact absurd (hi.trans (congrArg some (h.apart _ _ _ hi2 hj1))) hjo
      · exact h.apart j l g hj1 hl1
  · refine h.up F hF _ _ (hide_ext fun g o hgo hn => ?_) (h.facts F hF)
    have hgs := (Array.getElem?_eq_some_iff.1 hgo).1
    refine ⟨?_, fun hx => hn ?_⟩
    · rw [hg.block g hgs fun e1 => ?_, hgo]
      obtain ⟨i, _, hi2⟩ := hrow e1.symm
      exact hn (.inr ⟨i, hi2⟩)
    · rcases hx with hx | ⟨j, hx⟩
      · exact .inl hx
      · rcases hat hx with ⟨rfl, hv⟩ | ⟨_, hx, _⟩
        · rcases hnew g hv with h1 | h1
          · omega
          · obtain ⟨i, _, hi2⟩ := hrow h1
            exact .inr ⟨i, hi2⟩
        · exact .inr ⟨j, hx⟩
end
end Go.Proofs.Sym
