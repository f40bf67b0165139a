/- The text of a right level tells the level: the plain law of the statement LevelTexts. -/
import Derived.Test.YtmkpiekbpakigaaDoorLv11
set_option linter.unusedVariables false
set_option linter.unusedSimpArgs false
namespace Go.Proofs.YtmkpiekbpakigaaDoor
open Go.RowKit Go.Proofs.Base Go.Proofs.Mono

/-- Digits read back. -/
def undig (xs : List UInt8) : Nat := xs.foldl (fun a c => a * 10 + (c.toNat - 48)) 0
theorem undig_snoc (xs : List UInt8) (c : UInt8) : undig (xs ++ [c]) = undig xs * 10 + (c.toNat - 48) := by
  unfold undig
  rw [List.foldl_append]
  rfl
theorem digit_nat (n : Nat) (h : n < 10) : (UInt8.ofNat (48 + n)).toNat = 48 + n := by
  rw [UInt8.toNat_ofNat']
  omega
theorem undig_dec (n : Nat) : undig (Lib.decDigits n) = n := by
  induction n using Nat.strongRecOn with
  | ind n ih =>
    rw [Lib.decDigits]
    split
    · rename_i h
      unfold undig
      simp only [List.foldl]
      rw [digit_nat n h]
      omega
    · rename_i h
      rw [undig_snoc, ih (n / 10) (by omega), digit_nat _ (Nat.mod_lt _ (by decide))]
      omega
theorem dec_chars (n : Nat) : ∀ c ∈ Lib.decDigits n, 48 ≤ c.toNat ∧ c.toNat ≤ 57 := by
  induction n using Nat.strongRecOn with
  | ind n ih =>
    rw [Lib.decDigits]
    split
    · rename_i h
      intro c hc
      obtain rfl : c = UInt8.ofNat (48 + n) := by simpa using hc
      rw [digit_nat n h]
      omega
    · rename_i h
      intro c hc
      rcases List.mem_append.1 hc with hc | hc
      · exact ih (n / 10) (by omega) c hc
      · obtain rfl : c = UInt8.ofNat (48 + n % 10) := by simpa using hc
        have := Nat.mod_lt n (show 10 > 0 by decide)
        rw [digit_nat _ this]
        omega
theorem dec_ne (n : Nat) : Lib.decDigits n ≠ [] := by
  rw [Lib.decDigits]
  split <;> simp
theorem itoa_pos {n : Int} (h : 0 ≤ n) : Lib.itoa n = Lib.decDigits n.toNat := by
  unfold Lib.itoa
  rw [if_neg (by omega)]
theorem itoa_inj {n m : Int} (hn : 0 ≤ n) (hm : 0 ≤ m) (h : Lib.itoa n = Lib.itoa m) : n = m := by
  rw [itoa_pos hn, itoa_pos hm] at h
  have := congrArg undig h
  rw [undig_dec, undig_dec] at this
  omega
theorem itoa_chars {n : Int} (h : 0 ≤ n) : ∀ c ∈ Lib.itoa n, 48 ≤ c.toNat ∧ c.toNat ≤ 57 := by
  rw [itoa_pos h]
  exact dec_chars _
theorem itoa_ne {n : Int} (h : 0 ≤ n) : Lib.itoa n ≠ [] := by
  rw [itoa_pos h]
  exact dec_ne _

/-- What is joined by ' | ' comes apart again. -/
def noBlank (x : List UInt8) : Prop := ∀ c ∈ x, c ≠ 32
def blankTail (t : List UInt8) : Prop := t = [] ∨ ∃ r, t = 32 :: r
theorem cut_blank : ∀ {x y s t : List UInt8}, noBlank x → noBlank y → blankTail s → blankTail t → x ++ s = y ++ t → x = y ∧ s = t
  | [], [], _, _, _, _, _, _, h => ⟨rfl, h⟩
  | [], c :: y, s, t, _, hy, hs, _, h => by
    rcases hs with rfl | ⟨r, rfl⟩
    · simp at h
    · simp only [List.nil_append, List.cons_append, List.cons.injEq] at h
      exact absurd h.1.symm (hy c (by simp))
  | c :: x, [], s, t, hx, _, _, ht, h => by
    rcases ht with rfl | ⟨r, rfl⟩
    · simp at h
    · simp only [List.nil_append, List.cons_append, List.cons.injEq] at h
      exact absurd h.1 (hx c (by simp))
  | c :: x, d :: y, s, t, hx, hy, hs, ht, h => by
    simp only [List.cons_append, List.cons.injEq] at h
    obtain ⟨e, e2⟩ := cut_blank (fun z hz => hx z (List.mem_cons_of_mem _ hz)) (fun z hz => hy z (List.mem_cons_of_mem _ hz)) hs ht h.2
    exact ⟨by rw [h.1, e], e2⟩
theorem joinTail_cons (y : List UInt8) (r : List (List UInt8)) : Lib.joinTail [32, 124, 32] (y :: r) = [32, 124, 32] ++ (y ++ Lib.joinTail [32, 124, 32] r) := by
  simp [Lib.joinTail]
theorem joinTail_blank (r : List (List UInt8)) : blankTail (Lib.joinTail [32, 124, 32] r) := by
  cases r with
  | nil => exact Or.inl rfl
  | cons y r => exact Or.inr ⟨_, by rw [joinTail_cons]; rfl⟩
theorem joinTail_inj : ∀ {r s : List (List UInt8)}, (∀ x ∈ r, noBlank x) → (∀ x ∈ s, noBlank x) → Lib.joinTail [32, 124, 32] r = Lib.joinTail [32, 124, 32] s → r = s
  | [], [], _, _, _ => rfl
  | [], y :: s, _, _, h => by rw [joinTail_cons] at h; simp [Lib.joinTail] at h
  | x :: r, [], _, _, h => by rw [joinTail_cons] at h; simp [Lib.joinTail] at h
  | x :: r, y :: s, hx, hy, h => by
    rw [joinTail_cons, joinTail_cons] at h
    have h2 := List.append_cancel_left h
    obtain ⟨e, e2⟩ := cut_blank (hx x (by simp)) (hy y (by simp)) (joinTail_blank r) (joinTail_blank s) h2
    rw [e, joinTail_inj (fun z hz => hx z (List.mem_cons_of_mem _ hz)) (fun z hz => hy z (List.mem_cons_of_mem _ hz)) e2]
theorem join_inj {r s : List (List UInt8)} (hr : ∀ x ∈ r, noBlank x) (hs : ∀ x ∈ s, noBlank x) (nr : r ≠ []) (ns : s ≠ []) (h : Lib.join r [32, 124, 32] = Lib.join s [32, 124, 32]) : r = s := by
  match r, s, nr, ns with
  | x :: r, y :: s, _, _ =>
    rw [Lib.join_cons, Lib.join_cons] at h
    obtain ⟨e, e2⟩ := cut_blank (hr x (by simp)) (hs y (by simp)) (joinTail_blank r) (joinTail_blank s) h
    rw [e, joinTail_inj (fun z hz => hr z (List.mem_cons_of_mem _ hz)) (fun z hz => hs z (List.mem_cons_of_mem _ hz)) e2]

theorem u_noBlank (k : Nat) {p : Int} (h : 0 ≤ p) : noBlank (uPart k p) := by
  intro c hc
  unfold uPart at hc
  rcases List.mem_cons.1 hc with rfl | hc
  · decide
  · rcases List.mem_append.1 hc with hc | hc
    · have := itoa_chars (n := (k : Int)) (by omega) c hc
      rintro rfl
      revert this
      decide
    · split at hc
      · simp at hc
      · rcases List.mem_cons.1 hc with rfl | hc
        · decide
        · have := itoa_chars h c hc
          rintro rfl
          revert this
          decide
theorem parts_noBlank (l : Lv) : ∀ k, ∀ x ∈ l.partsGo k, noBlank x
  | 0 => by simp [Lv.partsGo]
  | k + 1 => by
    intro x hx
    rw [Lv.partsGo] at hx
    split at hx
    · exact parts_noBlank l k x hx
    · rcases List.mem_append.1 hx with hx | hx
      · exact parts_noBlank l k x hx
      · obtain rfl : x = uPart k (l.p k) := by simpa using hx
        exact u_noBlank k (by omega)
theorem itoa_noBlank {n : Int} (h : 0 ≤ n) : noBlank (Lib.itoa n) := by
  intro c hc
  have := itoa_chars h c hc
  rintro rfl
  revert this
  decide
theorem full_noBlank {l : Lv} (h : 0 ≤ l.b) : ∀ x ∈ l.full, noBlank x := by
  intro x hx
  unfold Lv.full at hx
  rcases List.mem_append.1 hx with hx | hx
  · split at hx
    · simp at hx
    · obtain rfl : x = Lib.itoa l.b := by simpa using hx
      exact itoa_noBlank h
  · exact parts_noBlank l 4 x hx

/-- A part is told by its first byte. -/
def isU (x : List UInt8) : Bool := x.head? == some 117
theorem isU_u (k : Nat) (p : Int) : isU (uPart k p) = true := by simp [isU, uPart]
theorem isU_itoa {n : Int} (h : 0 ≤ n) : isU (Lib.itoa n) = false := by
  have hc := itoa_chars h
  unfold isU
  cases hx : Lib.itoa n with
  | nil => rfl
  | cons c r =>
    have := hc c (by rw [hx]; simp)
    simp only [List.head?_cons, Option.some_beq_some, beq_eq_false_iff_ne, ne_eq]
    rintro rfl
    revert this
    decide
theorem parts_isU (l : Lv) : ∀ k, ∀ x ∈ l.partsGo k, isU x = true
  | 0 => by simp [Lv.partsGo]
  | k + 1 => by
    intro x hx
    rw [Lv.partsGo] at hx
    split at hx
    · exact parts_isU l k x hx
    · rcases List.mem_append.1 hx with hx | hx
      · exact parts_isU l k x hx
      · obtain rfl : x = uPart k (l.p k) := by simpa using hx
        exact isU_u _ _
theorem full_filter {l : Lv} (h : 0 ≤ l.b) : l.full.filter isU = l.partsGo 4 := by
  unfold Lv.full
  have e : (l.partsGo 4).filter isU = l.partsGo 4 := List.filter_eq_self.2 (parts_isU l 4)
  rw [List.filter_append, e]
  split
  · rfl
  · simp [isU_itoa h]
theorem full_head {l : Lv} (h : 0 ≤ l.b) : l.full.filter (fun x => !isU x) = if l.toldGo 4 = true then [] else [Lib.itoa l.b] := by
  unfold Lv.full
  have e : (l.partsGo 4).filter (fun x => !isU x) = [] := List.filter_eq_nil_iff.2 (fun x hx => by simp [parts_isU l 4 x hx])
  rw [List.filter_append, e]
  split
  · rfl
  · simp [isU_itoa h]
theorem u_second {k : Nat} (hk : k < 4) (p : Int) : (uPart k p)[1]? = some (UInt8.ofNat (48 + k)) := by
  unfold uPart
  rw [itoa_digit k (by omega)]
  rfl
/-- Part k is found by its second byte. -/
def pick (k : Nat) (xs : List (List UInt8)) : List (List UInt8) := xs.filter fun x => x[1]? == some (UInt8.ofNat (48 + k))
theorem digit_ne {i k : Nat} (hi : i < 4) (hk : k < 4) (h : i ≠ k) : UInt8.ofNat (48 + i) ≠ UInt8.ofNat (48 + k) := by
  intro e
  have := congrArg UInt8.toNat e
  rw [digit_nat i (by omega), digit_nat k (by omega)] at this
  omega
theorem pick_parts (l : Lv) (k : Nat) (hk : k < 4) : ∀ m, m ≤ 4 → pick k (l.partsGo m) = if k < m ∧ ¬ l.p k < 0 then [uPart k (l.p k)] else []
  | 0, _ => by simp [Lv.partsGo, pick]
  | m + 1, hm => by
    have ih := pick_parts l k hk m (by omega)
    rw [Lv.partsGo]
    by_cases hp : l.p m < 0
    · rw [if_pos hp, ih]
      by_cases hkm : k = m
      · subst hkm
        simp [hp]
      · have : k < m + 1 ↔ k < m := by omega
        simp only [this]
    · rw [if_neg hp]
      have e : pick k (l.partsGo m ++ [uPart m (l.p m)]) = pick k (l.partsGo m) ++ pick k [uPart m (l.p m)] := by
        unfold pick
        rw [List.filter_append]
      rw [e, ih]
      by_cases hkm : k = m
      · subst hkm
        have e2 : pick k [uPart k (l.p k)] = [uPart k (l.p k)] := by
          unfold pick
          simp [u_second hk]
        rw [e2]
        simp [hp]
      · have e2 : pick k [uPart m (l.p m)] = [] := by
          have hne : ((uPart m (l.p m))[1]? == some (UInt8.ofNat (48 + k))) = false := by
            rw [u_second (show m < 4 by omega)]
            exact beq_eq_false_iff_ne.2 (fun e => digit_ne (show m < 4 by omega) hk (Ne.symm hkm) (Option.some.inj e))
          unfold pick
          rw [List.filter_cons_of_neg (by rw [hne]; decide)]
          rfl
        have : k < m + 1 ↔ k < m := by omega
        rw [e2]
        simp only [this, List.append_nil]
theorem u_inj {k : Nat} {p q : Int} (hp : 0 ≤ p) (hq : 0 ≤ q) (h : uPart k p = uPart k q) : p = q := by
  unfold uPart at h
  have h2 := List.append_cancel_left (List.cons.inj h).2
  by_cases e : p = 0
  · by_cases e2 : q = 0
    · rw [e, e2]
    · rw [if_pos e, if_neg e2] at h2
      cases h2
  · by_cases e2 : q = 0
    · rw [if_neg e, if_pos e2] at h2
      cases h2
    · rw [if_neg e, if_neg e2] at h2
      exact itoa_inj hp hq (List.cons.inj h2).2
theorem parts_p {a b : Lv} (ha : a.right = true) (hb : b.right = true) (h : a.partsGo 4 = b.partsGo 4) (k : Nat) (hk : k < 4) : a.p k = b.p k := by
  have e := congrArg (pick k) h
  rw [pick_parts a k hk 4 (Nat.le_refl _), pick_parts b k hk 4 (Nat.le_refl _)] at e
  have ga := Lv.p_ge ha k
  have gb := Lv.p_ge hb k
  by_cases pa : a.p k < 0
  · by_cases pb : b.p k < 0
    · omega
    · simp [hk, pa, pb] at e
  · by_cases pb : b.p k < 0
    · simp [hk, pa, pb] at e
    · simp only [hk, pa, pb, not_false_eq_true, and_self, if_true, List.cons.injEq, and_true] at e
      exact u_inj (by omega) (by omega) e
theorem told_ex (l : Lv) : ∀ k, l.toldGo k = true → ∃ i, i < k ∧ l.p i = l.b
  | 0, h => by simp [Lv.toldGo] at h
  | k + 1, h => by
    rw [Lv.toldGo, Bool.or_eq_true] at h
    rcases h with h | h
    · obtain ⟨i, hi, e⟩ := told_ex l k h
      exact ⟨i, by omega, e⟩
    · exact ⟨k, by omega, by simpa using h⟩
theorem Lv.p_le_b {l : Lv} (h : l.right = true) (k : Nat) : l.p k ≤ l.b := by
  obtain ⟨⟨a1, a2⟩, ⟨a3, a4⟩, ⟨a5, a6⟩, ⟨a7, a8⟩, a9, a10⟩ := Lv.right_bd h
  unfold Lv.p
  split <;> assumption
theorem full_inj {a b : Lv} (ha : a.right = true) (hb : b.right = true) (h : a.full = b.full) : a = b := by
  have a9 : 0 ≤ a.b := (Lv.right_bd ha).2.2.2.2.1
  have b9 : 0 ≤ b.b := (Lv.right_bd hb).2.2.2.2.1
  have e := congrArg (List.filter isU) h
  rw [full_filter a9, full_filter b9] at e
  have hp := parts_p ha hb e
  have e0 : a.p0 = b.p0 := hp 0 (by omega)
  have e1 : a.p1 = b.p1 := hp 1 (by omega)
  have e2 : a.p2 = b.p2 := hp 2 (by omega)
  have e3 : a.p3 = b.p3 := hp 3 (by omega)
  refine Lv.ext' ?_ e0 e1 e2 e3
  have e4 := congrArg (List.filter fun x => !isU x) h
  rw [full_head a9, full_head b9] at e4
  by_cases ta : a.toldGo 4 = true
  · by_cases tb : b.toldGo 4 = true
    · obtain ⟨i, hi, ei⟩ := told_ex a 4 ta
      obtain ⟨j, hj, ej⟩ := told_ex b 4 tb
      have h1 := Lv.p_le_b hb i
      have h2 := Lv.p_le_b ha j
      rw [← hp i hi, ei] at h1
      rw [hp j hj, ej] at h2
      omega
    · rw [if_pos ta, if_neg tb] at e4
      cases e4
  · by_cases tb : b.toldGo 4 = true
    · rw [if_neg ta, if_pos tb] at e4
      cases e4
    · rw [if_neg ta, if_neg tb] at e4
      exact itoa_inj a9 b9 (List.cons.inj e4).1
theorem parts_mem (l : Lv) {i : Nat} (hp : ¬ l.p i < 0) : ∀ k, i < k → uPart i (l.p i) ∈ l.partsGo k
  | 0, h => by omega
  | k + 1, h => by
    rw [Lv.partsGo]
    by_cases e : i = k
    · subst e
      rw [if_neg hp]
      simp
    · have := parts_mem l hp k (by omega)
      split
      · exact this
      · exact List.mem_append_left _ this
theorem full_ne {l : Lv} (h : l.right = true) : l.full ≠ [] := by
  have h9 : 0 ≤ l.b := (Lv.right_bd h).2.2.2.2.1
  intro e
  unfold Lv.full at e
  rw [List.append_eq_nil_iff] at e
  by_cases t : l.toldGo 4 = true
  · obtain ⟨i, hi, ei⟩ := told_ex l 4 t
    have := parts_mem l (i := i) (by omega) 4 hi
    rw [e.2] at this
    simp at this
  · rw [if_neg t] at e
    simp at e
theorem full_elem {l : Lv} (h : l.right = true) : ∀ x ∈ l.full, x ≠ [] := by
  have h9 : 0 ≤ l.b := (Lv.right_bd h).2.2.2.2.1
  intro x hx
  unfold Lv.full at hx
  rcases List.mem_append.1 hx with hx | hx
  · split at hx
    · simp at hx
    · obtain rfl : x = Lib.itoa l.b := by simpa using hx
      exact itoa_ne h9
  · rintro rfl
    have := parts_isU l 4 _ hx
    simp [isU] at this
theorem text_ne {l : Lv} (h : l.right = true) : l.text ≠ [] := by
  unfold Lv.text
  rw [if_pos h]
  have h1 := full_ne h
  have h2 := full_elem h
  cases hf : l.full with
  | nil => exact absurd hf h1
  | cons x r =>
    rw [Lib.join_cons]
    intro e
    exact h2 x (by rw [hf]; simp) (List.append_eq_nil_iff.1 e).1
theorem text_no {l : Lv} (h : l.right = false) : l.text = [] := by
  unfold Lv.text
  rw [if_neg (by simp [h])]
theorem text_inj {a b : Lv} (ha : a.right = true) (hb : b.right = true) (h : a.text = b.text) : a = b := by
  unfold Lv.text at h
  rw [if_pos ha, if_pos hb] at h
  exact full_inj ha hb (join_inj (full_noBlank (Lv.right_bd ha).2.2.2.2.1) (full_noBlank (Lv.right_bd hb).2.2.2.2.1) (full_ne ha) (full_ne hb) h)
end Go.Proofs.YtmkpiekbpakigaaDoor
