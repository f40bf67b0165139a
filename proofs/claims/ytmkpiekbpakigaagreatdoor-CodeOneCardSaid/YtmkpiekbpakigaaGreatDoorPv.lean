/- Plain laws: what is taken is what is written so. -/
import Derived.Test.YtmkpiekbpakigaaGreatDoorRm
set_option linter.unusedVariables false
set_option linter.unusedSimpArgs false
namespace Go.Proofs.YtmkpiekbpakigaaGreatDoor
open Go.RowKit Go.Proofs.Base Go.Proofs.Sym

theorem Bytes.right {a b : List Nat} (h : Bytes (a ++ b)) : Bytes b := fun x hx => h x (List.mem_append.2 (.inr hx))
theorem Bytes.left {a b : List Nat} (h : Bytes (a ++ b)) : Bytes a := fun x hx => h x (List.mem_append.2 (.inl hx))
theorem Bytes.tail {x : Nat} {b : List Nat} (h : Bytes (x :: b)) : Bytes b := fun y hy => h y (List.mem_cons.2 (.inr hy))
theorem Bytes.head {x : Nat} {b : List Nat} (h : Bytes (x :: b)) : x < 256 := h x List.mem_cons_self
theorem rdByte_inv {most b : Nat} {l r : List Nat} (h : rdByte most l = some (b, r)) : l = b :: r ∧ b ≤ most := by
  unfold rdByte at h
  cases l with
  | nil => cases h
  | cons x t =>
    simp only at h
    split at h
    · rename_i hb
      cases h
      exact ⟨rfl, hb⟩
    · cases h
theorem valN_pos {ds : List Nat} (h : ds ≠ []) (h0 : ds.headD 0 ≠ 0) : 0 < valN ds := by
  induction hn : ds.length generalizing ds with
  | zero => exact absurd (List.eq_nil_of_length_eq_zero hn) h
  | succ n ih =>
    rw [← List.dropLast_concat_getLast h] at h0 ⊢
    rw [valN_snoc]
    by_cases hd : ds.dropLast = []
    · rw [hd] at h0 ⊢
      have h0 : ds.getLast h ≠ 0 := h0
      have : valN [] = 0 := rfl
      omega
    · have h1 : (ds.dropLast ++ [ds.getLast h]).headD 0 = ds.dropLast.headD 0 := by
        cases hq : ds.dropLast with
        | nil => exact absurd hq hd
        | cons a t => rfl
      rw [h1] at h0
      have := ih hd h0 (by rw [List.length_dropLast, hn]; rfl)
      omega
theorem rdg_val : ∀ (c : Nat) (ds : List Nat), ds.length ≤ c → Bytes ds → (ds ≠ [] → ds.headD 0 ≠ 0) → rdg c (valN ds) = ds
  | 0, ds, hl, _, _ => by
    rw [List.eq_nil_of_length_eq_zero (Nat.le_zero.1 hl)]
    rfl
  | c + 1, ds, hl, hB, h0 => by
    by_cases h : ds = []
    · subst h
      exact rdg_zero _
    · have hp := valN_pos h (h0 h)
      have hs := List.dropLast_concat_getLast h
      have hx : ds.getLast h < 256 := hB _ (List.getLast_mem h)
      have hv : valN ds = valN ds.dropLast * 256 + ds.getLast h := by
        rw [← valN_snoc, hs]
      rw [rdg, if_neg (by omega), hv, show (valN ds.dropLast * 256 + ds.getLast h) / 256 = valN ds.dropLast by omega, show (valN ds.dropLast * 256 + ds.getLast h) % 256 = ds.getLast h by omega]
      rw [rdg_val c ds.dropLast (by rw [List.length_dropLast]; omega) (fun x hx => hB x (List.dropLast_subset ds hx)) (fun hd => ?_), hs]
      have h1 : ds.headD 0 = ds.dropLast.headD 0 := by
        conv => lhs; rw [← hs]
        cases hq : ds.dropLast with
        | nil => exact absurd hq hd
        | cons a t => rfl
      rw [← h1]
      exact h0 h
theorem numB_val {ds : List Nat} (hl : ds.length ≤ 6) (hB : Bytes ds) (h0 : ds ≠ [] → ds.headD 0 ≠ 0) : numB (valN ds) = ds.length :: ds := by
  have e : digs (valN ds) 6 = ds := by
    have := rdg_digs (valN ds) 6 (Nat.le_refl _)
    rw [Nat.sub_self, Nat.pow_zero, Nat.div_one] at this
    rw [this, rdg_val 6 ds hl hB h0]
  rw [numB, e]
theorem rdNum_inv {most n : Nat} {l r : List Nat} (hB : Bytes l) (h : rdNum most l = some (n, r)) : l = numB n ++ r ∧ n ≤ most := by
  unfold rdNum at h
  cases h1 : rdByte 6 l with
  | none => rw [h1] at h; cases h
  | some q =>
  obtain ⟨c, r0⟩ := q
  rw [h1] at h
  obtain ⟨rfl, hc⟩ := rdByte_inv h1
  simp only at h
  cases h2 : decide (c ≤ r0.length) with
  | false => rw [h2] at h; cases h
  | true =>
  rw [h2] at h
  have h2 := of_decide_eq_true h2
  simp only at h
  cases h3 : (decide (c = 0) || !decide (r0.headD 0 = 0)) with
  | false => rw [h3] at h; cases h
  | true =>
  rw [h3] at h
  simp only at h
  cases h4 : decide (valN (r0.take c) ≤ most) with
  | false => rw [h4] at h; cases h
  | true =>
  rw [h4] at h
  have h4 := of_decide_eq_true h4
  simp only [Option.some.injEq, Prod.mk.injEq] at h
  obtain ⟨rfl, rfl⟩ := h
  have hlen : (r0.take c).length = c := by rw [List.length_take]; omega
  refine ⟨?_, h4⟩
  rw [numB_val (by omega) (hB.tail.take c) (fun hne => ?_), hlen, List.cons_append, List.take_append_drop]
  cases r0 with
  | nil => simp at hne
  | cons a t =>
    cases c with
    | zero => simp at hne
    | succ c => simpa using h3
theorem strN_map {l : List Nat} (h : Bytes l) : (strN l).data.toList.map UInt8.toNat = l := by
  unfold strN
  simp only [List.map_map]
  induction l with
  | nil => rfl
  | cons x t ih =>
    rw [List.map_cons, ih h.tail]
    have := h.head
    simp only [Function.comp]
    rw [UInt8.toNat_ofNat_of_lt' (by omega)]
theorem rdName_inv {s : ByteArray} {l r : List Nat} (hB : Bytes l) (h : rdName l = some (s, r)) : l = textN s ++ r := by
  unfold rdName at h
  cases h1 : rdNum 32 l with
  | none => rw [h1] at h; cases h
  | some q =>
  obtain ⟨n, r0⟩ := q
  rw [h1] at h
  obtain ⟨rfl, hn⟩ := rdNum_inv hB h1
  simp only at h
  cases h2 : decide (n ≤ r0.length) with
  | false => rw [h2] at h; cases h
  | true =>
  rw [h2] at h
  have h2 := of_decide_eq_true h2
  simp only at h
  split at h
  · cases h
  · simp only [Option.some.injEq, Prod.mk.injEq] at h
    obtain ⟨rfl, rfl⟩ := h
    have hlen : (r0.take n).length = n := by rw [List.length_take]; omega
    rw [textN, strN_size, strN_map (hB.right.take n), hlen, List.append_assoc, List.take_append_drop]
theorem byteN {n : Nat} (h : n < 256) : byteI (n : Int) = n := by
  have := byteI_eq (x := (n : Int)) (by omega) (by omega)
  omega
theorem bytePN {n : Nat} (h : n < 256) : byteP ((n : Int) - 1) = n := by
  have := byteP_eq (x := (n : Int) - 1) (by omega) (by omega)
  omega
theorem lvsAt_inv : ∀ (n : Nat) (l : List Nat), 5 * n ≤ l.length → Bytes l → lvsN (lvsAt n l) ++ l.drop (5 * n) = l
  | 0, l, _, _ => rfl
  | n + 1, l, hl, hB => by
    match l, hl, hB with
    | d0 :: d1 :: d2 :: d3 :: d4 :: r, hl, hB =>
      have ih := lvsAt_inv n r (by simp only [List.length_cons] at hl; omega) hB.tail.tail.tail.tail.tail
      have e1 : lvsN (lvsAt (n + 1) (d0 :: d1 :: d2 :: d3 :: d4 :: r)) = [d0, d1, d2, d3, d4] ++ lvsN (lvsAt n r) := by
        show lvN (lvOf (d0 :: d1 :: d2 :: d3 :: d4 :: r)) ++ lvsN (lvsAt n r) = _
        congr 1
        simp only [lvOf, lvN]
        rw [byteN hB.head, bytePN hB.tail.head, bytePN hB.tail.tail.head, bytePN hB.tail.tail.tail.head, bytePN hB.tail.tail.tail.tail.head]
      have e2 : (d0 :: d1 :: d2 :: d3 :: d4 :: r).drop (5 * (n + 1)) = r.drop (5 * n) := by
        rw [show 5 * (n + 1) = 5 * n + 5 by omega]
        rfl
      rw [e1, e2, List.append_assoc, ih]
      rfl
    | [], hl, _ => simp at hl
    | [_], hl, _ => simp at hl; omega
    | [_, _], hl, _ => simp at hl; omega
    | [_, _, _], hl, _ => simp at hl; omega
    | [_, _, _, _], hl, _ => simp at hl; omega
theorem rdLevels_inv {n : Nat} {l r : List Nat} {ls : List Lv} (hB : Bytes l) (h : rdLevels n l = some (ls, r)) : l = lvsN ls ++ r ∧ ls.length = n := by
  unfold rdLevels at h
  cases h1 : decide (5 * n ≤ l.length) with
  | false => rw [h1] at h; cases h
  | true =>
  rw [h1] at h
  have h1 := of_decide_eq_true h1
  simp only [Option.some.injEq, Prod.mk.injEq] at h
  obtain ⟨rfl, rfl⟩ := h
  exact ⟨(lvsAt_inv n l h1 hB).symm, lvsAt_len n l⟩
theorem rdNode_inv {k : Nat} {left left' : Int} {l r : List Nat} {nd : ND} (hB : Bytes l) (h : rdNode k left l = some (nd, left', r)) : l = (kindN k nd.n nd.s nd.ls ++ lvsN nd.ls) ++ r := by
  unfold rdNode at h
  split at h
  · cases h1 : rdNum 1099511627776 l with
    | none => rw [h1] at h; cases h
    | some q =>
    obtain ⟨n, r1⟩ := q
    rw [h1] at h
    simp only [Option.some.injEq, Prod.mk.injEq] at h
    obtain ⟨rfl, _, rfl⟩ := h
    rw [(rdNum_inv hB h1).1]
    simp [kindN, lvsN]
  · cases h1 : rdLevels 1 l with
    | none => rw [h1] at h; cases h
    | some q =>
    obtain ⟨ls, r1⟩ := q
    rw [h1] at h
    simp only [Option.some.injEq, Prod.mk.injEq] at h
    obtain ⟨rfl, _, rfl⟩ := h
    rw [(rdLevels_inv hB h1).1]
    simp [kindN]
  · cases h1 : rdName l with
    | none => rw [h1] at h; cases h
    | some q =>
    obtain ⟨s, r1⟩ := q
    rw [h1] at h
    have e1 := rdName_inv hB h1
    subst e1
    simp only at h
    cases h2 : rdByte 4 r1 with
    | none => rw [h2] at h; cases h
    | some q =>
    obtain ⟨m, r2⟩ := q
    rw [h2] at h
    obtain ⟨rfl, hm⟩ := rdByte_inv h2
    simp only at h
    cases h3 : rdLevels m r2 with
    | none => rw [h3] at h; cases h
    | some q =>
    obtain ⟨ls, r3⟩ := q
    rw [h3] at h
    obtain ⟨rfl, hls⟩ := rdLevels_inv hB.right.tail h3
    simp only [Option.some.injEq, Prod.mk.injEq] at h
    obtain ⟨rfl, _, rfl⟩ := h
    have hb : byteI (ls.length : Nat) = m := by rw [hls]; exact byteN (by omega)
    simp [kindN, hb]
  · simp only [Option.some.injEq, Prod.mk.injEq] at h
    obtain ⟨rfl, _, rfl⟩ := h
    simp [kindN, lvsN]
  · simp only [Option.some.injEq, Prod.mk.injEq] at h
    obtain ⟨rfl, _, rfl⟩ := h
    simp [kindN, lvsN]
  · simp only [Option.some.injEq, Prod.mk.injEq] at h
    obtain ⟨rfl, _, rfl⟩ := h
    simp [kindN, lvsN]
  · simp only [Option.some.injEq, Prod.mk.injEq] at h
    obtain ⟨rfl, _, rfl⟩ := h
    simp [kindN, lvsN]
  · cases h1 : rdNum 31 l with
    | none => rw [h1] at h; cases h
    | some q =>
    obtain ⟨n, r1⟩ := q
    rw [h1] at h
    obtain ⟨rfl, _⟩ := rdNum_inv hB h1
    simp only at h
    cases h2 : rdName r1 with
    | none => rw [h2] at h; cases h
    | some q =>
    obtain ⟨s, r2⟩ := q
    rw [h2] at h
    have e1 := rdName_inv hB.right h2
    subst e1
    simp only [Option.some.injEq, Prod.mk.injEq] at h
    obtain ⟨rfl, _, rfl⟩ := h
    simp [kindN, lvsN]
  · simp only [Option.some.injEq, Prod.mk.injEq] at h
    obtain ⟨rfl, _, rfl⟩ := h
    rename_i h1 h2 h3 h4 h5 h6 h7 h8 hx
    have g1 : ¬ (k : Int) = 1 := fun e => h1 (by omega)
    have g4 : ¬ (k : Int) = 4 := fun e => h3 (by omega)
    have g9 : ¬ (k : Int) = 9 := fun e => h8 (by omega)
    simp [kindN, lvsN, g1, g4, g9]
theorem rdTerms_inv {f : Int → List Nat → Option (Tm × Int × List Nat)} (hf : ∀ left l t left' r, Bytes l → f left l = some (t, left', r) → l = putT t ++ r) : ∀ (n : Nat) (left : Int) (l : List Nat) (ts : List Tm) (left' : Int) (r : List Nat), Bytes l → rdTerms f n left l = some (ts, left', r) → l = putTs ts ++ r
  | 0, left, l, ts, left', r, hB, h => by
    cases h
    simp [putTs]
  | n + 1, left, l, ts, left', r, hB, h => by
    rw [rdTerms] at h
    cases h1 : f left l with
    | none => rw [h1] at h; cases h
    | some q =>
    obtain ⟨t, left1, l1⟩ := q
    rw [h1] at h
    have e1 := hf _ _ _ _ _ hB h1
    subst e1
    simp only at h
    cases h2 : rdTerms f n left1 l1 with
    | none => rw [h2] at h; cases h
    | some q =>
    obtain ⟨ts2, left2, l2⟩ := q
    rw [h2] at h
    have e2 := rdTerms_inv hf n _ _ _ _ _ hB.right h2
    subst e2
    simp only [Option.some.injEq, Prod.mk.injEq] at h
    obtain ⟨rfl, _, rfl⟩ := h
    rw [putTs, List.append_assoc]
theorem rdTerm_inv : ∀ (fuel : Nat) (left : Int) (l : List Nat) (t : Tm) (left' : Int) (r : List Nat), Bytes l → rdTerm fuel left l = some (t, left', r) → l = putT t ++ r
  | 0, left, l, t, left', r, hB, h => by rw [rdTerm] at h; cases h
  | fuel + 1, left, l, t, left', r, hB, h => by
    rw [rdTerm] at h
    split at h
    · cases h
    · cases h1 : rdByte 9 l with
      | none => rw [h1] at h; cases h
      | some q =>
      obtain ⟨k, l1⟩ := q
      rw [h1] at h
      obtain ⟨rfl, hk⟩ := rdByte_inv h1
      simp only at h
      cases h2 : rdNode k (left - 1) l1 with
      | none => rw [h2] at h; cases h
      | some q =>
      obtain ⟨nd, left2, l2⟩ := q
      rw [h2] at h
      have e2 := rdNode_inv hB.tail h2
      subst e2
      simp only at h
      cases h3 : rdTerms (rdTerm fuel) nd.a left2 l2 with
      | none => rw [h3] at h; cases h
      | some q =>
      obtain ⟨ts, left3, l3⟩ := q
      rw [h3] at h
      have e3 := rdTerms_inv (fun left l t left' r hB h => rdTerm_inv fuel left l t left' r hB h) _ _ _ _ _ _ hB.tail.right h3
      subst e3
      simp only [Option.some.injEq, Prod.mk.injEq] at h
      obtain ⟨rfl, _, rfl⟩ := h
      rw [putT, byteN (by omega)]
      simp
theorem rdWhole_inv {l r : List Nat} {t : Tm} {left : Int} (hB : Bytes l) (h : rdWhole l = some (t, left, r)) : l = putT t ++ r ∧ codeB t = true := by
  unfold rdWhole at h
  cases h1 : rdTerm 3000 3000 l with
  | none => rw [h1] at h; cases h
  | some q =>
  obtain ⟨t1, left1, l1⟩ := q
  rw [h1] at h
  simp only at h
  cases h2 : codeB t1 with
  | false => rw [h2] at h; cases h
  | true =>
  rw [h2] at h
  simp only [Option.some.injEq, Prod.mk.injEq] at h
  obtain ⟨rfl, _, rfl⟩ := h
  exact ⟨rdTerm_inv _ _ _ _ _ _ hB h1, h2⟩
theorem rdCts_inv : ∀ (n : Nat) (left : Int) (l : List Nat) (cs : List (ByteArray × Tm)) (left' : Int) (r : List Nat), Bytes l → rdCts n left l = some (cs, left', r) → l = ctsN cs ++ r ∧ cs.length = n
  | 0, left, l, cs, left', r, hB, h => by
    cases h
    exact ⟨by simp [ctsN], rfl⟩
  | n + 1, left, l, cs, left', r, hB, h => by
    rw [rdCts] at h
    cases h1 : rdName l with
    | none => rw [h1] at h; cases h
    | some q =>
    obtain ⟨s, l1⟩ := q
    rw [h1] at h
    have e1 := rdName_inv hB h1
    subst e1
    simp only at h
    cases h2 : rdWhole l1 with
    | none => rw [h2] at h; cases h
    | some q =>
    obtain ⟨t, left2, l2⟩ := q
    rw [h2] at h
    have e2 := (rdWhole_inv hB.right h2).1
    subst e2
    simp only at h
    cases h3 : rdCts n left2 l2 with
    | none => rw [h3] at h; cases h
    | some q =>
    obtain ⟨cs3, left3, l3⟩ := q
    rw [h3] at h
    obtain ⟨rfl, hl⟩ := rdCts_inv n _ _ _ _ _ hB.right.right h3
    simp only [Option.some.injEq, Prod.mk.injEq] at h
    obtain ⟨rfl, _, rfl⟩ := h
    refine ⟨?_, by rw [List.length_cons, hl]⟩
    show _ = (ctN (s, t) ++ ctsN cs3) ++ l3
    simp [ctN]
theorem rdDecl_inv {l r : List Nat} {d : DM} {left : Int} (hB : Bytes l) (h : rdDecl l = some (d, left, r)) : l = declN d ++ r ∧ formedB d = true := by
  unfold rdDecl at h
  cases h1 : rdByte 4 l with
  | none => rw [h1] at h; cases h
  | some q =>
  obtain ⟨k, l1⟩ := q
  rw [h1] at h
  obtain ⟨rfl, hk⟩ := rdByte_inv h1
  simp only at h
  cases h2 : rdName l1 with
  | none => rw [h2] at h; cases h
  | some q =>
  obtain ⟨s, l2⟩ := q
  rw [h2] at h
  have e2 := rdName_inv hB.tail h2
  subst e2
  simp only at h
  cases h3 : rdByte 4 l2 with
  | none => rw [h3] at h; cases h
  | some q =>
  obtain ⟨p, l3⟩ := q
  rw [h3] at h
  obtain ⟨rfl, hp⟩ := rdByte_inv h3
  simp only at h
  have hB3 := hB.tail.right.tail
  cases h4 : rdWhole l3 with
  | none => rw [h4] at h; cases h
  | some q =>
  obtain ⟨ty, left4, l4⟩ := q
  rw [h4] at h
  have e4 := (rdWhole_inv hB3 h4).1
  subst e4
  simp only at h
  cases h5 : rdRest k left4 l4 with
  | none => rw [h5] at h; cases h
  | some q =>
  obtain ⟨b, left5, l5⟩ := q
  rw [h5] at h
  simp only at h
  cases h6 : formedB ⟨k, p, s, ty, b.v, b.fx, b.cs⟩ with
  | false => rw [h6] at h; cases h
  | true =>
  rw [h6] at h
  simp only [Option.some.injEq, Prod.mk.injEq] at h
  obtain ⟨rfl, _, rfl⟩ := h
  refine ⟨?_, h6⟩
  have hB4 := hB3.right
  have hrest : l4 = bodyN ⟨k, p, s, ty, b.v, b.fx, b.cs⟩ ++ l5 := by
    unfold rdRest at h5
    cases hv : valB (k : Int) with
    | true =>
      rw [hv] at h5
      simp only at h5
      cases h7 : rdWhole l4 with
      | none => rw [h7] at h5; cases h5
      | some q =>
      obtain ⟨t7, left7, l7⟩ := q
      rw [h7] at h5
      simp only [Option.some.injEq, Prod.mk.injEq] at h5
      obtain ⟨rfl, _, rfl⟩ := h5
      rw [bodyN, if_pos hv]
      exact (rdWhole_inv hB4 h7).1
    | false =>
      rw [hv] at h5
      simp only at h5
      have hnv : ¬ valB (k : Int) = true := by rw [hv]; decide
      cases h8 : decide ((k : Int) = 4) with
      | false =>
        rw [h8] at h5
        simp only [Option.some.injEq, Prod.mk.injEq] at h5
        obtain ⟨rfl, _, rfl⟩ := h5
        rw [bodyN, if_neg hnv, if_neg (of_decide_eq_false h8)]
        rfl
      | true =>
        rw [h8] at h5
        simp only at h5
        cases h9 : rdByte 16 l4 with
        | none => rw [h9] at h5; cases h5
        | some q =>
        obtain ⟨fx, l9⟩ := q
        rw [h9] at h5
        obtain ⟨rfl, hfx⟩ := rdByte_inv h9
        simp only at h5
        cases h10 : rdByte 8 l9 with
        | none => rw [h10] at h5; cases h5
        | some q =>
        obtain ⟨m, l10⟩ := q
        rw [h10] at h5
        obtain ⟨rfl, hm⟩ := rdByte_inv h10
        simp only at h5
        cases h11 : rdCts m left4 l10 with
        | none => rw [h11] at h5; cases h5
        | some q =>
        obtain ⟨cs, left11, l11⟩ := q
        rw [h11] at h5
        obtain ⟨rfl, hcl⟩ := rdCts_inv _ _ _ _ _ _ hB4.tail.tail h11
        simp only [Option.some.injEq, Prod.mk.injEq] at h5
        obtain ⟨rfl, _, rfl⟩ := h5
        rw [bodyN, if_neg hnv, if_pos (of_decide_eq_true h8)]
        show fx :: m :: _ = byteI (fx : Int) :: byteI (cs.length : Nat) :: ctsN cs ++ l11
        rw [byteN (by omega), hcl, byteN (by omega)]
        rfl
  rw [hrest]
  unfold declN headN
  simp only
  rw [byteN (show k < 256 by omega), byteN (show p < 256 by omega)]
  simp
theorem rdDecls_inv : ∀ (n : Nat) (left : Int) (l : List Nat) (ds : List DM) (left' : Int) (r : List Nat), Bytes l → rdDecls n left l = some (ds, left', r) → l = declsN ds ++ r ∧ ds.length = n ∧ ds.all formedB = true
  | 0, left, l, ds, left', r, hB, h => by
    cases h
    exact ⟨by simp [declsN], rfl, rfl⟩
  | n + 1, left, l, ds, left', r, hB, h => by
    rw [rdDecls] at h
    cases h1 : rdDecl l with
    | none => rw [h1] at h; cases h
    | some q =>
    obtain ⟨d, left1, l1⟩ := q
    rw [h1] at h
    obtain ⟨rfl, hf⟩ := rdDecl_inv hB h1
    simp only at h
    cases h2 : rdDecls n left1 l1 with
    | none => rw [h2] at h; cases h
    | some q =>
    obtain ⟨ds2, left2, l2⟩ := q
    rw [h2] at h
    obtain ⟨rfl, hl, ha⟩ := rdDecls_inv n _ _ _ _ _ hB.right h2
    simp only [Option.some.injEq, Prod.mk.injEq] at h
    obtain ⟨rfl, _, rfl⟩ := h
    refine ⟨?_, by rw [List.length_cons, hl], by rw [List.all_cons, hf, ha]; rfl⟩
    show _ = (declN d ++ declsN ds2) ++ l2
    rw [List.append_assoc]
theorem rdLib_inv {l : List Nat} {ds : List DM} (hB : Bytes l) (h : rdLib l = some ds) : l = libN ds ∧ libB ds = true := by
  unfold rdLib at h
  cases h1 : rdNum 64 l with
  | none => rw [h1] at h; cases h
  | some q =>
  obtain ⟨n, r⟩ := q
  rw [h1] at h
  obtain ⟨rfl, hn⟩ := rdNum_inv hB h1
  simp only at h
  cases h2 : rdDecls n 0 r with
  | none => rw [h2] at h; cases h
  | some q =>
  obtain ⟨ds2, left2, l2⟩ := q
  rw [h2] at h
  obtain ⟨rfl, hl, ha⟩ := rdDecls_inv _ _ _ _ _ _ hB.right h2
  simp only at h
  cases h3 : decide ((l2.length : Int) = 0) with
  | false => rw [h3] at h; cases h
  | true =>
  rw [h3] at h
  have h3 := of_decide_eq_true h3
  cases h
  have : l2 = [] := List.eq_nil_of_length_eq_zero (by omega)
  subst this
  refine ⟨by rw [libN, hl, List.append_nil], ?_⟩
  unfold libB
  rw [ha, hl, decide_eq_true hn]
  rfl
end Go.Proofs.YtmkpiekbpakigaaGreatDoor
