/- Symbolic walks: the region of open order, shown; all of a function's code; a function's contract out of its walk. -/
import Derived.Test.YtmkpiekbpakigaaDoorSymG
set_option linter.unusedVariables false
set_option linter.unusedSimpArgs false
namespace Go.Proofs.Sym
open Go.RowKit Go.Proofs.Base Go.Proofs.Mono

theorem get_append {α : Type _} (i : Nat) : ∀ (xs ys : List (Nat × α)), get i (xs ++ ys) = match get i xs with | some v => some v | none => get i ys
  | [], ys => rfl
  | (j, x) :: r, ys => by
    by_cases h : i = j
    · subst h
      rw [List.cons_append, get_self, get_self]
    · rw [List.cons_append, get_ne h, get_ne h]
      exact get_append i r ys
theorem hasN_iff {x : Nat} : ∀ {l : List Nat}, hasN x l = true ↔ x ∈ l
  | [] => by simp [hasN]
  | y :: r => by
    by_cases h : x = y
    · subst h
      simp [hasN]
    · have : Nat.beq x y = false := by rw [← Bool.not_eq_true, Nat.beq_eq]; exact h
      simp only [hasN, this, List.mem_cons, h, false_or]
      exact hasN_iff
theorem get_keepN {α : Type _} {i : Nat} {v : α} {l : List Nat} : ∀ {xs : List (Nat × α)}, get i (keepN l xs) = some v → i ∈ l ∧ get i xs = some v
  | [], h => by cases h
  | (j, x) :: r, h => by
    simp only [keepN] at h
    split at h
    · rename_i hj
      rcases get_cons h with ⟨rfl, rfl⟩ | ⟨hne, h⟩
      · exact ⟨hasN_iff.1 hj, get_self _ _ _⟩
      · obtain ⟨h1, h2⟩ := get_keepN h
        exact ⟨h1, by rw [get_ne hne]; exact h2⟩
    · rename_i hj
      obtain ⟨h1, h2⟩ := get_keepN h
      have hne : i ≠ j := fun e => by
        subst e
        rw [hasN_iff.2 h1] at hj
        cases hj
      exact ⟨h1, by rw [get_ne hne]; exact h2⟩
theorem selS_some {N i : Nat} {v : SV} : ∀ {ds : List (Nat × Dl)}, get i (selS N ds) = some v → ∃ j d, (j, d) ∈ ds ∧ d.dst = some i ∧ i < N ∧ d.v = v
  | [], h => by cases h
  | (j, d) :: r, h => by
    simp only [selS] at h
    split at h
    · obtain ⟨j', d', h1, h2⟩ := selS_some h
      exact ⟨j', d', List.mem_cons_of_mem _ h1, h2⟩
    · rename_i t ht
      split at h
      · rename_i hb
        rcases get_cons h with ⟨rfl, rfl⟩ | ⟨hne, h⟩
        · exact ⟨j, d, List.mem_cons_self, ht, by rw [← Nat.blt_eq]; exact hb, rfl⟩
        · obtain ⟨j', d', h1, h2⟩ := selS_some h
          exact ⟨j', d', List.mem_cons_of_mem _ h1, h2⟩
      · obtain ⟨j', d', h1, h2⟩ := selS_some h
        exact ⟨j', d', List.mem_cons_of_mem _ h1, h2⟩
theorem selS_none {N i : Nat} : ∀ {ds : List (Nat × Dl)}, get i (selS N ds) = none → ∀ j d, (j, d) ∈ ds → d.dst = some i → ¬ i < N
  | [], _, j, d, hm, _ => by cases hm
  | (j0, d0) :: r, h, j, d, hm, hd => by
    simp only [selS] at h
    rcases List.mem_cons.1 hm with heq | hm
    · cases heq
      rw [hd] at h
      simp only at h
      split at h
      · rw [get_self] at h
        cases h
      · rename_i hb
        intro hlt
        rw [← Nat.blt_eq] at hlt
        rw [hlt] at hb
        cases hb
    · split at h
      · exact selS_none h j d hm hd
      · rename_i t ht
        split at h
        · by_cases e1 : i = t
          · subst e1
            rw [get_self] at h
            cases h
          · rw [get_ne e1] at h
            exact selS_none h j d hm hd
        · exact selS_none h j d hm hd
theorem mask_mem {tb : List Nat} {k j : Nat} {d : Dl} : ∀ {ds : List (Nat × Dl)}, (j, d) ∈ mask tb k ds ↔ (j, d) ∈ ds ∧ bitOf tb k j = true
  | [] => by simp [mask]
  | (i, c) :: r => by
    simp only [mask]
    split
    · rename_i hb
      simp only [List.mem_cons, mask_mem (ds := r), Prod.mk.injEq]
      constructor
      · rintro (⟨rfl, rfl⟩ | ⟨h1, h2⟩)
        · exact ⟨.inl ⟨rfl, rfl⟩, hb⟩
        · exact ⟨.inr h1, h2⟩
      · rintro ⟨⟨rfl, rfl⟩ | h1, h2⟩
        · exact .inl ⟨rfl, rfl⟩
        · exact .inr ⟨h1, h2⟩
    · rename_i hb
      simp only [List.mem_cons, mask_mem (ds := r), Prod.mk.injEq]
      constructor
      · rintro ⟨h1, h2⟩
        exact ⟨.inr h1, h2⟩
      · rintro ⟨⟨rfl, rfl⟩ | h1, h2⟩
        · rw [hb] at h2
          cases h2
        · exact ⟨h1, h2⟩
theorem selP_of : ∀ {ds : List (Nat × Dl)}, (∀ j d, (j, d) ∈ ds → pO d.p) → selP ds
  | [], _ => trivial
  | (j, d) :: r, h => by
    have h1 := h j d List.mem_cons_self
    have ih := selP_of (ds := r) (fun j d hm => h j d (List.mem_cons_of_mem _ hm))
    simp only [selP]
    split
    · rename_i p hp
      rw [hp] at h1
      exact ⟨h1, ih⟩
    · exact ih
theorem selF_mem {F : World → Prop} : ∀ {ds : List (Nat × Dl)}, F ∈ selF ds → ∃ j d, (j, d) ∈ ds ∧ d.f = some F
  | [], h => by cases h
  | (j, d) :: r, h => by
    simp only [selF] at h
    split at h
    · rename_i G hG
      rcases List.mem_cons.1 h with rfl | h
      · exact ⟨j, d, List.mem_cons_self, hG⟩
      · obtain ⟨j', d', h1, h2⟩ := selF_mem h
        exact ⟨j', d', List.mem_cons_of_mem _ h1, h2⟩
    · obtain ⟨j', d', h1, h2⟩ := selF_mem h
      exact ⟨j', d', List.mem_cons_of_mem _ h1, h2⟩
section
variable {P : Program} {T : Tab} {cx : Cx} {e : Env} {st : St} {a : Act} {w : World} {ops : Array Oper}
theorem Mem.more {m : List (Nat × LB)} {k : Nat} {f : List (World → Prop)} (h : Mem cx e m k f w) : ∀ (g : List (World → Prop)), (∀ F ∈ g, Up F ∧ F (hide (fun g => cx.H g ∨ Own e m g) w)) → Mem cx e m k (g ++ f) w
  | [], _ => h
  | F :: r, hg => (h.more r fun G hG => hg G (List.mem_cons_of_mem _ hG)).add (hg F List.mem_cons_self).1 (hg F List.mem_cons_self).2
theorem dsl_mem {N : Nat} {tb : List Nat} {ann : (Nat → Value) → Nat → An} {vals : Nat → Value} {j : Nat} {d : Dl} : ∀ {n : Nat}, (j, d) ∈ dsl P T N ops tb ann vals st n → j < n ∧ d = dn P T N ops tb ann vals st j (dsl P T N ops tb ann vals st j)
  | 0, h => by cases h
  | n + 1, h => by
    rcases List.mem_cons.1 h with heq | h
    · cases heq
      exact ⟨Nat.lt_succ_self _, rfl⟩
    · obtain ⟨h1, h2⟩ := dsl_mem h
      exact ⟨Nat.lt_succ_of_lt h1, h2⟩
theorem dsl_has {N : Nat} {tb : List Nat} {ann : (Nat → Value) → Nat → An} {vals : Nat → Value} {j : Nat} : ∀ {n : Nat}, j < n → (j, dn P T N ops tb ann vals st j (dsl P T N ops tb ann vals st j)) ∈ dsl P T N ops tb ann vals st n
  | n + 1, h => by
    by_cases e1 : j = n
    · subst e1
      exact List.mem_cons_self
    · exact List.mem_cons_of_mem _ (dsl_has (by omega))
/-- What holds of operation k once it is done. -/
def Done (P : Program) (T : Tab) (cx : Cx) (e : Env) (ops : Array Oper) (tb : List Nat) (ann : (Nat → Value) → Nat → An) (st : St) (k : Nat) (vals : Nat → Value) (w : World) : Prop :=
  vals k = (dn P T cx.n ops tb ann vals st k (dsl P T cx.n ops tb ann vals st k)).v.real e ∧ (dn P T cx.n ops tb ann vals st k (dsl P T cx.n ops tb ann vals st k)).v.lt st.k ∧
  (dn P T cx.n ops tb ann vals st k (dsl P T cx.n ops tb ann vals st k)).dst = dstOf ops k ∧ pO (dn P T cx.n ops tb ann vals st k (dsl P T cx.n ops tb ann vals st k)).p ∧
  fO (hide (fun g => cx.H g ∨ Own e st.m g) w) (dn P T cx.n ops tb ann vals st k (dsl P T cx.n ops tb ann vals st k)).f
theorem hide_later {H : Nat → Prop} {w w' : World} (h : Later w w') : Sub (hide H w) (hide H w') :=
  hide_ext fun g o hg hn => ⟨by rw [h.block g (Array.getElem?_eq_some_iff.1 hg).1, hg], hn⟩
theorem bit_lt {tb : List Nat} (h : transOk tb = true) {k j : Nat} (hb : bitOf tb k j = true) : j < k := by
  by_cases hk : k < tb.length
  · have h0 := List.all_eq_true.1 h k (List.mem_range.2 hk)
    rw [Bool.and_eq_true, Nat.blt_eq] at h0
    refine Classical.byContradiction fun hn => ?_
    unfold bitOf at hb
    rw [Nat.testBit_lt_two_pow (Nat.lt_of_lt_of_le h0.1 (Nat.pow_le_pow_right (by decide) (by omega)))] at hb
    cases hb
  · unfold bitOf at hb
    have : tb.getD k 0 = 0 := by simp [List.getD, List.getElem?_eq_none (Nat.le_of_not_lt hk)]
    rw [this] at hb
    simp at hb
theorem draw_ok (hT : T.Ok P) (hS : Sat cx e st a w) {id : Nat} {K : Exit → St → Prop} (h : DrawVC P T cx.n ops (K .normal) (fun ch st => K (.panic ch) st) st) : (Code.region id ops true).wp P (Post cx K) a w := by
  obtain ⟨m, tb, ann, htb, hlen, htab, htail, htr, hm, hgo⟩ := h.ex
  have Tb := table_of htab
  have U := tail_of htail
  have hbit : ∀ k j, bef ops k j = bitOf tb k j := by
    intro k j
    unfold bef bitOf
    rw [← htb]
    congr 1
    simp [Array.getD_eq_getD_getElem?, List.getD]
  have hmono : (ops.toList.take m).length = m := by simp; omega
  have hidx : ∀ j, j < (ops.toList.take m).length → (ops.toList.take m)[j]? = ops[0 + j]? := by
    intro j hj
    rw [hmono] at hj
    rw [List.getElem?_take_of_lt hj, Nat.zero_add, Array.getElem?_toList]
  have hall := fun vals => dgo_all (P := P) (T := T) (st := st) (ops := ops) (ops.toList.take m) 0 hidx (hgo vals)
  have loc : ∀ {k : Nat} {vals vals' : Nat → Value}, k < ops.size → (∀ j, j = k ∨ bitOf tb k j = true → vals j = vals' j) → dn P T cx.n ops tb ann vals st k (dsl P T cx.n ops tb ann vals st k) = dn P T cx.n ops tb ann vals' st k (dsl P T cx.n ops tb ann vals' st k) :=
    fun hk hv => dn_loc htr (fun k j hb => bit_lt htr hb) _ _ (Nat.le_refl _) (by rw [hlen]; exact hk) _ _ hv
  refine wp_region_any hT.mixed (any_mono2 Tb Later.refl (fun w' => Mem cx e st.m st.k st.f w') (fun hab hb => hb.later hab) (Done P T cx e ops tb ann st) ?_ ?_ a _ m hm U ?_ ?_ _ _ (fun _ => undef) a _ (by simp) (by simp) ?_ ?_ ?_ ?_ ?_)
  · rintro k vals w1 w2 h12 ⟨h1, h2, h3, h4, h5⟩
    refine ⟨h1, h2, h3, h4, ?_⟩
    cases hf : (dn P T cx.n ops tb ann vals st k (dsl P T cx.n ops tb ann vals st k)).f with
    | none => trivial
    | some F =>
      rw [hf] at h5
      exact ⟨h5.1, h5.1 _ _ (hide_later h12) h5.2⟩
  · rintro k vals vals' w1 hk hv ⟨h1, h2, h3, h4, h5⟩
    have hv' : ∀ j, j = k ∨ bitOf tb k j = true → vals j = vals' j := fun j hj => hv j (by
      rcases hj with rfl | hj
      · exact hk
      · exact Nat.lt_trans (bit_lt htr hj) hk) (by
      rcases hj with rfl | hj
      · exact .inl rfl
      · exact .inr (by rw [hbit]; exact hj))
    have hd := loc hk hv'
    unfold Done
    rw [← hd, ← hv' k (.inl rfl)]
    exact ⟨h1, h2, h3, h4, h5⟩
  · intro k vals w1 o hk ho hC hB
    have hks : k < ops.size := by omega
    have hBb : ∀ j, bitOf tb k j = true → Done P T cx e ops tb ann st j vals w1 := fun j hj => hB j (Nat.lt_trans (bit_lt htr hj) hks) (by rw [hbit]; exact hj)
    have hmem : ∀ j d, (j, d) ∈ mask tb k (dsl P T cx.n ops tb ann vals st k) → j < k ∧ bitOf tb k j = true ∧ d = dn P T cx.n ops tb ann vals st j (dsl P T cx.n ops tb ann vals st j) := by
      intro j d hjd
      obtain ⟨h1, h2⟩ := mask_mem.1 hjd
      obtain ⟨h3, h4⟩ := dsl_mem h1
      exact ⟨h3, h2, h4⟩
    have hsat : Sat cx e (dstate cx.n st (mask tb k (dsl P T cx.n ops tb ann vals st k)) (o.looksAt ops)) (putUpto ops a vals k) w1 := by
      refine ⟨hS.base, (size_upto a vals k).1.trans hS.size, (size_upto a vals k).2.trans hS.defers, fun i v hi => ?_, hC.more _ fun F hF => ?_⟩
      · obtain ⟨hlook, hi⟩ := get_keepN hi
        rw [get_append] at hi
        split at hi
        · rename_i v' hv'
          cases hi
          obtain ⟨j, d, h1, h2, h3, rfl⟩ := selS_some hv'
          obtain ⟨hjk, hbj, rfl⟩ := hmem j d h1
          obtain ⟨g1, g2, g3, _, _⟩ := hBb j hbj
          refine ⟨g2, ?_⟩
          rw [slot_upto_on Tb a vals (by rw [← g3]; exact h2) (by rw [hS.size]; exact h3) k (by omega) hjk, g1]
        · rename_i hno
          obtain ⟨h1, h2⟩ := hS.slots i v hi
          refine ⟨h1, ?_⟩
          rw [slot_upto_off a vals k fun j hj hdj => ?_]
          · exact h2
          · have hjs : j < ops.size := by omega
            rcases Tb.looks ho hlook hjs (by omega) hdj with h3 | h3
            · rw [hbit] at h3
              have hjm := mask_mem.2 ⟨dsl_has (P := P) (T := T) (st := st) (ops := ops) (N := cx.n) (tb := tb) (ann := ann) (vals := vals) hj, h3⟩
              refine selS_none hno j _ hjm (by rw [(hBb j h3).2.2.1]; exact hdj) ?_
              have h5 : i < a.tmps.size := by
                by_cases h6 : i < a.tmps.size
                · exact h6
                · rw [Array.getElem?_eq_none (Nat.le_of_not_lt h6)] at h2
                  cases h2
              rw [← hS.size]
              exact h5
            · rw [hbit] at h3
              have := bit_lt htr h3
              omega
      · obtain ⟨j, d, h1, h2⟩ := selF_mem hF
        obtain ⟨hjk, hbj, rfl⟩ := hmem j d h1
        obtain ⟨_, _, _, _, g5⟩ := hBb j hbj
        rw [h2] at g5
        exact g5
    have hp : selP (mask tb k (dsl P T cx.n ops tb ann vals st k)) := selP_of fun j d h1 => by
      obtain ⟨hjk, hbj, rfl⟩ := hmem j d h1
      exact (hBb j hbj).2.2.2.1
    have hoff : ∀ u, maskV tb k (upd vals k u) = maskV tb k vals ∧ mask tb k (dsl P T cx.n ops tb ann (upd vals k u) st k) = mask tb k (dsl P T cx.n ops tb ann vals st k) := by
      intro u
      have hne : ∀ j, bitOf tb k j = true → upd vals k u j = vals j := fun j hj => by
        have := bit_lt htr hj
        simp [upd, Nat.ne_of_lt this]
      refine ⟨?_, mask_eq k fun j hj hb => loc (by omega) fun i hi => hne i ?_⟩
      · funext j
        unfold maskV
        split
        · rename_i hj
          exact hne j hj
        · rfl
      · rcases hi with rfl | hi
        · exact hb
        · exact trans_of htr (by rw [hlen]; exact hks) hj hb hi
    have hev : ∀ u, ∃ d ob, evalD P T ops u (ann (maskV tb k vals) k) o (dstate cx.n st (mask tb k (dsl P T cx.n ops tb ann vals st k)) (o.looksAt ops)) = some (d, ob) ∧ obT ob := by
      intro u
      obtain ⟨d, ob, h1, h2⟩ := (hall (upd vals k u)).2 k o (Nat.zero_le _) (by rw [hmono]; omega) ho
      rw [(hoff u).1, (hoff u).2] at h1
      rw [(hoff u).2] at h2
      simp only [upd, if_true] at h1
      exact ⟨d, ob, h1, h2 hp⟩
    have hdn : ∀ u d ob, evalD P T ops u (ann (maskV tb k vals) k) o (dstate cx.n st (mask tb k (dsl P T cx.n ops tb ann vals st k)) (o.looksAt ops)) = some (d, ob) → dn P T cx.n ops tb ann (upd vals k u) st k (dsl P T cx.n ops tb ann (upd vals k u) st k) = d := by
      intro u d ob h1
      unfold dn
      rw [ho]
      simp only
      rw [(hoff u).1, (hoff u).2]
      simp only [upd, if_true]
      rw [h1]
    have hfin := evalD_ok (ops := ops) hT hsat hev
    have hdst : dstOf ops k = o.dst := by simp [dstOf, ho]
    split
    · rename_i hw
      rw [if_pos hw] at hfin
      unfold yieldsM at hfin ⊢
      generalize (execOp (putUpto ops a vals k).eval o).run P w1 = r at hfin ⊢
      have hr := hfin
      cases r with
      | ok n w2 =>
        have key : ∀ v w3, (Later w1 w3 ∧ ∀ d ob, evalD P T ops v (ann (maskV tb k vals) k) o (dstate cx.n st (mask tb k (dsl P T cx.n ops tb ann vals st k)) (o.looksAt ops)) = some (d, ob) → v = d.v.real e ∧ d.v.lt st.k ∧ d.dst = o.dst ∧ pO d.p ∧ fO (hide (fun g => cx.H g ∨ Own e st.m g) w3) d.f) → Later w1 w3 ∧ Done P T cx e ops tb ann st k (upd vals k v) w3 := by
          rintro v w3 ⟨h1, h2⟩
          refine ⟨h1, ?_⟩
          obtain ⟨d, ob, h3, _⟩ := hev v
          obtain ⟨g1, g2, g3, g4, g5⟩ := h2 d ob h3
          have hd := hdn v d ob h3
          unfold Done
          rw [hd]
          exact ⟨by simp only [upd, if_true]; exact g1, g2, g3.trans hdst.symm, g4, g5⟩
        cases n with
        | value u => exact key _ _ hr
        | skip => exact key _ _ hr
        | enter f args => exact Calls.mono hr fun en w3 ⟨v, he, hv⟩ => ⟨v, he, key _ _ hv⟩
        | row row args => exact Rows.mono hr fun v w3 hv => key _ _ hv
        | _ => exact hr.elim
      | halt x w2 => exact hr.elim
    · rename_i hw
      rw [if_neg hw] at hfin
      obtain ⟨d, ob, h3, _⟩ := hev undef
      obtain ⟨g1, g2, g3, g4, g5⟩ := hfin d ob h3
      have hd := hdn undef d ob h3
      unfold Done
      rw [hd]
      exact ⟨by simp only [upd, if_true]; exact g1, g2, g3.trans hdst.symm, g4, g5⟩
  · intro fuel listed vals a' w' hsz hcnt hpre hallL hA hC hD
    have ha : a' = putUpto ops a vals m := at_full Tb hm hA hpre hallL
    have hmem : ∀ j d, (j, d) ∈ dsl P T cx.n ops tb ann vals st m → j < m ∧ d = dn P T cx.n ops tb ann vals st j (dsl P T cx.n ops tb ann vals st j) := fun j d hjd => dsl_mem hjd
    have hsat : Sat cx e (dfin cx.n st (dsl P T cx.n ops tb ann vals st m)) a' w' := by
      subst ha
      refine ⟨hS.base, (size_upto a vals m).1.trans hS.size, (size_upto a vals m).2.trans hS.defers, fun i v hi => ?_, hC.more _ fun F hF => ?_⟩
      · have hi : get i (selS cx.n (dsl P T cx.n ops tb ann vals st m) ++ st.s) = some v := hi
        rw [get_append] at hi
        split at hi
        · rename_i v' hv'
          cases hi
          obtain ⟨j, d, h1, h2, h3, rfl⟩ := selS_some hv'
          obtain ⟨hjk, rfl⟩ := hmem j d h1
          obtain ⟨g1, g2, g3, _, _⟩ := hD j hjk
          refine ⟨g2, ?_⟩
          rw [slot_upto_on Tb a vals (by rw [← g3]; exact h2) (by rw [hS.size]; exact h3) m hm hjk, g1]
        · rename_i hno
          obtain ⟨h1, h2⟩ := hS.slots i v hi
          refine ⟨h1, ?_⟩
          rw [slot_upto_off a vals m fun j hj hdj => ?_]
          · exact h2
          · refine selS_none hno j _ (dsl_has (P := P) (T := T) (st := st) (ops := ops) (N := cx.n) (tb := tb) (ann := ann) (vals := vals) hj) (by rw [(hD j hj).2.2.1]; exact hdj) ?_
            have h5 : i < a.tmps.size := by
              by_cases h6 : i < a.tmps.size
              · exact h6
              · rw [Array.getElem?_eq_none (Nat.le_of_not_lt h6)] at h2
                cases h2
            rw [← hS.size]
            exact h5
      · obtain ⟨j, d, h1, h2⟩ := selF_mem hF
        obtain ⟨hjk, rfl⟩ := hmem j d h1
        obtain ⟨_, _, _, _, g5⟩ := hD j hjk
        rw [h2] at g5
        exact g5
    have hp : selP (dsl P T cx.n ops tb ann vals st m) := selP_of fun j d h1 => by
      obtain ⟨hjk, rfl⟩ := hmem j d h1
      exact (hD j hjk).2.2.2.1
    have hF := (hall vals).1
    rw [hmono, Nat.zero_add] at hF
    have hlist := sops_ok (P := P) (T := T) (cx := cx) (ops := ops) (K := K) hT _ e _ a' w' hsat (hF hp)
    exact any_tail Tb m U (ops.toList.drop m) m a' w' (fun j hj => by rw [List.getElem?_drop, Array.getElem?_toList]) (Nat.le_refl _) (by simp; omega) hlist fuel listed hsz (fun j hj => ⟨hpre j hj, hallL j⟩) hcnt
  · intro j hj hlk
    rw [listed_no] at hlk
    cases hlk
  · intro k hk hlk
    rw [listed_no] at hlk
    cases hlk
  · exact ⟨rfl, rfl, fun hj hlk => absurd (listed_no.symm.trans hlk) (by decide), fun _ => rfl⟩
  · exact hS.mem.later ⟨rfl, rfl, rfl, Nat.le_refl _, fun _ _ => rfl⟩
  · intro j hj hlk
    rw [listed_no] at hlk
    cases hlk
end
end Go.Proofs.Sym
