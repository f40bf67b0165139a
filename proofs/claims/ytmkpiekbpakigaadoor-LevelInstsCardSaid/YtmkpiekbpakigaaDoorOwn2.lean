/- What a slice of levels reads as. -/
import Derived.Test.YtmkpiekbpakigaaDoorOwn
set_option linter.unusedVariables false
set_option linter.unusedSimpArgs false
namespace Go.Proofs.YtmkpiekbpakigaaDoor
open Go.ChangeShapes Go.WideShapes Go.ChangeAt Go.RowKit Go.Proofs.Base
section
variable {H : Type} {enc : TypeId × Value → H} {w : World} {base : Nat} {sp : Nat → Bool} {held : Bool}
theorem choose_list {α : Type} {Q : Nat → α → Prop} : ∀ (n : Nat), (∀ j, j < n → ∃ x, Q j x) → ∃ ls : List α, ls.length = n ∧ ∀ j x, ls[j]? = some x → Q j x
  | 0, _ => ⟨[], rfl, fun j x h => by simp at h⟩
  | n + 1, h => by
    obtain ⟨ls, h1, h2⟩ := choose_list n fun j hj => h j (by omega)
    obtain ⟨x, hx⟩ := h n (by omega)
    refine ⟨ls ++ [x], by simp [h1], fun j y hj => ?_⟩
    by_cases hjn : j < n
    · rw [List.getElem?_append_left (by omega)] at hj
      exact h2 j y hj
    · rw [List.getElem?_append_right (by omega)] at hj
      have : j = n := by
        have := (List.getElem?_eq_some_iff.1 hj).1
        simp at this
        omega
      subst this
      rw [h1, Nat.sub_self] at hj
      cases hj
      exact hx
set_option maxRecDepth 100000 in
/-- A slice of levels, opened. -/
theorem levels_open {r : Reach} {b0 : Nat} {v : Value} {d : DataW H} {ps : List MemPlace} (hval : Value.okWide Tryd.prog w r b0 32 v) (h : DataW.Trod enc Tryd.prog w base sp held 32 v d ps) :
    ∃ (A : Option Addr) (len cap : Nat) (ls : List Lv), v = .slice A len cap ∧ LvRow w A ls ∧ len = ls.length ∧ len ≤ cap ∧ cap ≤ 9223372036854775807 := by
  obtain ⟨A, len, cap, rfl⟩ := okWide_slice Tryd.underlying32 hval
  obtain ⟨fuel, hf⟩ := h
  rcases DataW.trod_slice Tryd.underlying32 hf with ⟨hcs, -⟩ | ⟨a, len', cap', elems, rest, n, rfl, hcs, _, _, hl, hm, hlen, hel, _, _⟩
  · simp [Value.cells] at hcs
    obtain ⟨rfl, rfl, rfl⟩ := hcs
    exact ⟨none, 0, 0, [], rfl, ⟨by simp, fun h => by simp at h⟩, rfl, Nat.le_refl _, by decide⟩
  · simp [Value.cells] at hcs
    obtain ⟨rfl, rfl, rfl⟩ := hcs
    have hm' : cap ≤ 9223372036854775807 := Nat.le_trans hm (by decide)
    obtain ⟨ls, h1, h2⟩ := choose_list (Q := fun j l => ∀ i c, (Lv.cells l)[i]? = some c → w.cell? ((a.add (j * 5)).add i) = some c) len fun j hj => by
      have h3 := hel j hj
      rw [List.getElem?_eq_getElem (by omega), cells24] at h3
      obtain ⟨cs, h4, h5⟩ := Option.bind_eq_some_iff.1 h3
      obtain ⟨l, rfl, _, _⟩ := level_cells h5
      obtain ⟨_, h6, h7⟩ := World.cells?_some h4
      refine ⟨l, fun i c hi => ?_⟩
      rw [h7 i (by have := (List.getElem?_eq_some_iff.1 hi).1; simp [Lv.cells] at this; exact this), hi]
    refine ⟨some a, len, cap, ls, rfl, ⟨by omega, fun hp => ?_⟩, h1.symm, hl, hm'⟩
    obtain ⟨b, off, spot⟩ := a
    have hspot : spot = none := by
      have := h2 0 _ (List.getElem?_eq_getElem (by omega)) 0 _ rfl
      simpa [Addr.add] using World.cell?_spot this
    subst hspot
    refine ⟨b, off, rfl, fun j l hj => ?_⟩
    have h3 := h2 j l hj
    simp only [add_plain] at h3
    exact ⟨h3 0 _ rfl, h3 1 _ rfl, h3 2 _ rfl, h3 3 _ rfl, h3 4 _ rfl⟩
end
end Go.Proofs.YtmkpiekbpakigaaDoor
