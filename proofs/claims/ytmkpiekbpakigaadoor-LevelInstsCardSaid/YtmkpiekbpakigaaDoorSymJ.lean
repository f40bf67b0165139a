/- Symbolic walks: what a walk's end tells of memory made; entailments of states. -/
import Derived.Test.YtmkpiekbpakigaaDoorSymI
set_option linter.unusedVariables false
set_option linter.unusedSimpArgs false
namespace Go.Proofs.Sym
open Go.RowKit Go.Proofs.Base Go.Proofs.Mono

/-- A slice that holds these cells. -/
def SlAt (w : World) (A : Option Addr) (vs : List Value) : Prop := ∀ j u, vs[j]? = some u → ∃ a, A = some a ∧ w.cell? (a.add j) = some u
theorem SlAt.up (A : Option Addr) (vs : List Value) : Up fun w => SlAt w A vs := by
  intro w w' h hs j u hj
  obtain ⟨a, ha, hc⟩ := hs j u hj
  exact ⟨a, ha, h.cell hc⟩
theorem SlAt.nil (w : World) (A : Option Addr) : SlAt w A [] := fun j u h => by simp at h
def byteCells (l : List UInt8) : List Value := l.map fun b => Value.int .u8 (b.toNat : Int)
theorem byteCells_len (l : List UInt8) : (byteCells l).length = l.length := by simp [byteCells]
theorem byteCells_app (l r : List UInt8) : byteCells (l ++ r) = byteCells l ++ byteCells r := by simp [byteCells]
theorem byteCells_one (l : List UInt8) : ∀ u ∈ byteCells l, u.oneCell' = true := by
  intro u hu
  obtain ⟨b, _, rfl⟩ := List.mem_map.1 hu
  rfl
theorem bytesAt_iff {w : World} {A : Option Addr} {l : List UInt8} : BytesAt w A l ↔ SlAt w A (byteCells l) := by
  constructor
  · intro h j u hj
    simp only [byteCells, List.getElem?_map] at hj
    cases hq : l[j]? with
    | none => rw [hq] at hj; cases hj
    | some b =>
      rw [hq] at hj
      cases hj
      exact h j b hq
  · intro h j b hj
    exact h j _ (by simp [byteCells, hj])
section
variable {cx : Cx} {e : Env} {m : List (Nat × LB)} {k : Nat} {f : List (World → Prop)} {w : World}
theorem Mem.seen (h : Mem cx e m k f w) : AllF f (hide cx.H w) := by
  rw [allF_iff]
  exact fun F hF => h.up F hF _ _ (hide_ext fun g o hg hn => ⟨hg, fun hx => hn (.inl hx)⟩) (h.facts F hF)
theorem Mem.not_hid (h : Mem cx e m k f w) (hG : ∀ g, ¬ cx.G g) {i g : Nat} (hg : At e m i g) : ¬ cx.H g := by
  rcases h.free i g hg with h1 | h1
  · exact fun hH => Nat.lt_irrefl _ (Nat.lt_of_lt_of_le (cx.hH g hH) h1)
  · exact absurd h1 (hG g)
theorem hide_block {H : Nat → Prop} {w : World} {g : Nat} {o : Obj} (h : w.heap[g]? = some o) (hn : ¬ H g) : (hide H w).heap[g]? = some o := by
  rw [hide_get, h]
  simp [hn]
theorem Mem.told_row (h : Mem cx e m k f w) (hG : ∀ g, ¬ cx.G g) {i E z n : Nat} {xs : List Value} (hi : get i m = some (.own E z n xs)) :
    ∃ A c, e.rv i = .slice A n c ∧ (A = none → n = 0 ∧ c = 0) ∧ n ≤ c ∧ c ≤ maxLen ∧ SlAt (hide cx.H w) A xs := by
  have h1 := h.own i E z n xs hi
  rcases h1.2 with ⟨hv, h0⟩ | ⟨g, cap, cur, hv, _, hh, hnc, hcm, hcs, ht⟩
  · refine ⟨none, 0, by rw [hv, h0], fun _ => ⟨h0, rfl⟩, by omega, by simp [maxLen], ?_⟩
    have : xs = [] := List.eq_nil_of_length_eq_zero (by rw [h1.1, h0, Nat.zero_mul])
    rw [this]
    exact SlAt.nil _ _
  · refine ⟨some ⟨g, 0, none⟩, cap, hv, fun hn => (by cases hn), hnc, hcm, fun j u hj => ⟨_, rfl, ?_⟩⟩
    have hb := hide_block hh (h.not_hid hG ⟨_, hi, by simp only [LB.block, hv, Value.ownBlock]⟩)
    rw [add_off, cell_of_row _ g (0 + j) cur E (0, 0) hb]
    rw [← ht, List.getElem?_take] at hj
    split at hj
    · simpa using hj
    · cases hj
theorem Mem.told_cells (h : Mem cx e m k f w) (hG : ∀ g, ¬ cx.G g) {i t : Nat} {cs : List SA} (hi : get i m = some (.cells t cs)) : SlAt (hide cx.H w) (some ⟨e.blk i, 0, none⟩) (reals e cs) := by
  intro j u hj
  have hb := hide_block (h.cells i t cs hi) (h.not_hid hG ⟨_, hi, rfl⟩)
  refine ⟨_, rfl, ?_⟩
  rw [add_off, cell_of_row _ (e.blk i) (0 + j) _ _ _ hb]
  simpa using hj
end
end Go.Proofs.Sym
