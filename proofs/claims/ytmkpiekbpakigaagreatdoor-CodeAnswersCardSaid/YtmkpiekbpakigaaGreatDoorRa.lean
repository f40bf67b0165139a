/- Plain laws: the reference's Word tells the same names. A block told plainly at a stop. -/
import Derived.Test.YtmkpiekbpakigaaGreatDoorDomj
set_option linter.unusedVariables false
set_option linter.unusedSimpArgs false
namespace Go.Proofs.Sym
open Go.RowKit Go.Proofs.Base Go.Proofs.Mono
/-- At a stop: a block that is written no more. -/
theorem Walks.blk {P : Program} {N : Nat} {c : Code} {K : Exit → St → Prop} {st : St} (i : Nat) {t : TypeId} {cs : List SA} {vs : List Value} (hi : get i st.m = some (.cells t cs)) (hp : plainOf cs = some vs)
    (h : ∀ g, Walks P N c K (sbSt (blkA i g) i (fun w => SlAt w (some ⟨g, 0, none⟩) vs) st)) : Walks P N c K st := by
  refine ⟨fun cx e a w hn hS => (h (e.blk i)).run cx e a w hn ⟨hS.base, hS.size, hS.defers, fun t u hu => ?_, ?_⟩⟩
  · obtain ⟨u0, h1, rfl⟩ := get_sbS hu
    obtain ⟨h2, h3⟩ := hS.slots _ _ h1
    exact ⟨(blkA_ok rfl).vlt h2, by rw [h3, (blkA_ok rfl).v]⟩
  · refine hS.mem.spell hi (blkA_ok rfl) (SlAt.up _ _) ?_
    intro j u hj
    have hb := hide_block (H := fun g => cx.H g ∨ ∃ j, j ≠ i ∧ At e st.m j g) (hS.mem.cells i t cs hi) (hS.mem.others ⟨_, hi, rfl⟩)
    refine ⟨_, rfl, ?_⟩
    rw [add_off, cell_of_row _ (e.blk i) (0 + j) _ _ _ hb, plainOf_ok e hp]
    simpa using hj
end Go.Proofs.Sym
namespace Go.Proofs.YtmkpiekbpakigaaGreatDoor
open Go.RowKit Go.Proofs.Base Go.Proofs.Sym

/-! ### Letters and signs -/
def letterR (c : Int) : Bool := (decide (97 ≤ c) && decide (c ≤ 122)) || (decide (65 ≤ c) && decide (c ≤ 90))
def digitR (c : Int) : Bool := decide (48 ≤ c) && decide (c ≤ 57)
theorem letter_byte (c : UInt8) : letterR (c.toNat : Int) = letterI (c.toNat : Int) := by
  have h : ∀ n : Fin 256, letterR (n.val : Int) = letterI (n.val : Int) := by decide +kernel
  exact h ⟨c.toNat, c.toNat_lt⟩
def signR (c : Int) : Bool := letterR c || digitR c || decide (c = 95)
theorem sign_byte (c : UInt8) : signR (c.toNat : Int) = signI (c.toNat : Int) := by
  unfold signR signI
  rw [letter_byte]
  rfl
/-- The scan of a name: none, or whether a part is to begin. -/
def wscan : Bool → List UInt8 → Option Bool
  | b, [] => some b
  | b, c :: r => if (b && !letterR (c.toNat : Int)) = true then none else if c = 46 then wscan true r else if signR (c.toNat : Int) = true then wscan false r else none
theorem letter46 : letterR ((46 : UInt8).toNat : Int) = false := by decide
theorem letter_sign {c : Int} (h : letterR c = true) : signR c = true := by
  unfold signR
  rw [h]
  rfl
theorem wscan_ok : ∀ (l : List UInt8) (x : List UInt8) (xs : List (List UInt8)), splitDot l = x :: xs →
    (decide (wscan true l = some false) = (partB x && xs.all partB)) ∧ (decide (wscan false l = some false) = (signs x && xs.all partB))
  | [], x, xs, h => by
    cases h
    exact ⟨by decide, by decide⟩
  | c :: r, x, xs, h => by
    rw [splitDot] at h
    cases hr : splitDot r with
    | nil => exact absurd hr (splitDot_ne r)
    | cons y ys =>
    rw [hr] at h
    simp only at h
    obtain ⟨h1, h2⟩ := wscan_ok r y ys hr
    have hl := letter_byte c
    have hs := sign_byte c
    by_cases hc : c = 46
    · subst hc
      rw [if_pos (by decide)] at h
      cases h
      refine ⟨?_, ?_⟩
      · rw [wscan, if_pos (by rw [letter46]; rfl)]
        rfl
      · rw [wscan, if_neg (by rw [Bool.false_and]; decide), if_pos rfl, h1]
        rfl
    · rw [if_neg (by simpa using hc)] at h
      cases h
      refine ⟨?_, ?_⟩
      · rw [wscan, partB, ← hl]
        cases hlc : letterR (c.toNat : Int) with
        | false =>
          rw [if_pos (by decide)]
          rfl
        | true =>
          rw [if_neg (by decide), if_neg hc, if_pos (letter_sign hlc), h2, signs, ← hs, letter_sign hlc]
          rfl
      · rw [wscan, if_neg (by rw [Bool.false_and]; decide), if_neg hc, signs, ← hs]
        cases hsc : signR (c.toNat : Int) with
        | false =>
          rw [if_neg (by decide)]
          rfl
        | true =>
          rw [if_pos rfl, h2]
          rfl
/-! ### Reserved words -/
def takeTo : List UInt8 → Option (List UInt8)
  | [] => none
  | c :: r => if c = 32 then some [] else (takeTo r).map (c :: ·)
def segs : List UInt8 → List (List UInt8)
  | [] => []
  | b :: r => if b = 32 then (match takeTo r with | some x => x :: segs r | none => segs r) else segs r
theorem contains_cons (b : UInt8) (r sub : List UInt8) : Lib.contains (b :: r) sub = (sub.isPrefixOf (b :: r) || Lib.contains r sub) := by
  have := Lib.index_ge r sub
  unfold Lib.contains
  rw [Lib.index]
  cases h : sub.isPrefixOf (b :: r) with
  | true => simp
  | false =>
    rw [if_neg (by decide)]
    by_cases h2 : Lib.index r sub = -1
    · rw [if_pos (by rw [h2]; rfl), h2]
      rfl
    · rw [if_neg (by simpa using h2), Bool.false_or]
      rw [decide_eq_decide]
      omega
theorem prefix_takeTo : ∀ (l r : List UInt8), (∀ c ∈ l, c ≠ 32) → (l ++ [32]).isPrefixOf r = decide (takeTo r = some l)
  | [], [], _ => by decide
  | [], c :: r, _ => by
    rw [List.nil_append, takeTo]
    by_cases hc : c = 32
    · subst hc
      rw [if_pos rfl]
      cases r <;> rfl
    · rw [if_neg hc]
      have h1 : ([32] : List UInt8).isPrefixOf (c :: r) = false := by
        simp [List.isPrefixOf]
        exact fun h => hc h.symm
      rw [h1]
      cases takeTo r <;> simp
  | x :: l, [], _ => by
    simp [List.isPrefixOf, takeTo]
  | x :: l, c :: r, h => by
    have hx := h x List.mem_cons_self
    have ih := prefix_takeTo l r (fun c hc => h c (List.mem_cons_of_mem _ hc))
    rw [List.cons_append, List.isPrefixOf, ih, takeTo]
    by_cases hc : c = 32
    · subst hc
      rw [if_pos rfl]
      simp [hx]
    · rw [if_neg hc]
      cases takeTo r with
      | none => simp
      | some y =>
        simp only [Option.map_some, Option.some.injEq, List.cons.injEq]
        by_cases hxc : x = c
        · subst hxc
          simp
        · have : (x == c) = false := by simpa using hxc
          rw [this, decide_eq_false (p := c = x ∧ y = l) (fun h => hxc h.1.symm)]
          simp
theorem contains_segs (l : List UInt8) (h : ∀ c ∈ l, c ≠ 32) : ∀ R : List UInt8, Lib.contains R (32 :: (l ++ [32])) = (segs R).any (fun x => decide (x = l))
  | [] => by
    unfold Lib.contains
    rw [Lib.index]
    rfl
  | b :: r => by
    rw [contains_cons, contains_segs l h r, List.isPrefixOf, prefix_takeTo l r h, segs]
    by_cases hb : b = 32
    · subst hb
      rw [if_pos rfl]
      cases takeTo r with
      | none => simp
      | some x => simp
    · rw [if_neg hb]
      have : ((32 : UInt8) == b) = false := by
        simp
        exact fun h => hb h.symm
      rw [this]
      rfl
def wordsL : List (List UInt8) := [[80, 114, 111, 112], [84, 121, 112, 101], [102, 117, 110], [97, 108, 108], [108, 101, 116], [105, 110], [111, 102], [119, 105, 116, 104], [97, 120, 105, 111, 109], [100, 101, 102], [116, 104, 101, 111, 114, 101, 109], [102, 97, 109, 105, 108, 121], [117, 48], [117, 49], [117, 50], [117, 51]]
theorem segs_reserved : segs reservedL = wordsL := by decide +kernel
theorem wscan_no32 : ∀ (l : List UInt8) (b c : Bool), wscan b l = some c → ∀ x ∈ l, x ≠ 32
  | [], _, _, _ => fun x hx => by cases hx
  | d :: r, b, c, h => by
    rw [wscan] at h
    split at h
    · cases h
    · intro x hx
      rcases List.mem_cons.1 hx with rfl | hx
      · rintro rfl
        split at h
        · rename_i h2
          revert h2
          decide
        · split at h
          · rename_i h3
            revert h3
            decide
          · cases h
      · split at h
        · exact wscan_no32 r _ _ h x hx
        · split at h
          · exact wscan_no32 r _ _ h x hx
          · cases h
/-- What the reference's Word answers. -/
def wordR (l : List UInt8) : Bool := match wscan true l with
  | none => false
  | some b => !wordsL.any (fun x => decide (x = l)) && !b
theorem word_eq (s : ByteArray) : (decide (1 ≤ s.size) && (decide (s.size ≤ 32) && wordR s.data.toList)) = wordB s := by
  obtain ⟨⟨l⟩⟩ := s
  show (decide (1 ≤ l.length) && (decide (l.length ≤ 32) && wordR l)) = (decide (l.length ≤ 32) && !isReserved ⟨⟨l⟩⟩ && (splitDot l).all partB)
  have hres : (∀ c ∈ l, c ≠ 32) → isReserved ⟨⟨l⟩⟩ = wordsL.any (fun x => decide (x = l)) := fun h => by
    rw [← segs_reserved, ← contains_segs l h reservedL]
    rfl
  cases hs : splitDot l with
  | nil => exact absurd hs (splitDot_ne l)
  | cons x xs =>
  have h1 := (wscan_ok l x xs hs).1
  rw [List.all_cons, ← h1]
  have h0 : l = [] → wscan true l = some true := fun h => by rw [h]; rfl
  unfold wordR
  cases hw : wscan true l with
  | none => simp
  | some b =>
    simp only
    rw [hres (wscan_no32 l _ _ hw)]
    cases b with
    | true => simp
    | false =>
      have hl : 1 ≤ l.length := by
        cases l with
        | nil => rw [h0 rfl] at hw; cases hw
        | cons => simp
      rw [decide_eq_true hl]
      simp
end Go.Proofs.YtmkpiekbpakigaaGreatDoor
