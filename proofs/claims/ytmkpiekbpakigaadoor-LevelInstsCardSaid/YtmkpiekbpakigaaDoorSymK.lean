/- Symbolic walks: a state told anew: other numbers for its memory, fewer slots, facts that follow. -/
import Derived.Test.YtmkpiekbpakigaaDoorSymJ
set_option linter.unusedVariables false
set_option linter.unusedSimpArgs false
namespace Go.Proofs.Sym
open Go.RowKit Go.Proofs.Base Go.Proofs.Mono

/-- Where a number's memory comes from: a block, a row, or a block that is from now on a row. -/
inductive Src where
  | blk (j : Nat)
  | own (j : Nat)
  | lit (j n : Nat)
def Src.id : Src → Nat
  | .blk j => j
  | .own j => j
  | .lit j _ => j
def renE (rn : List (Nat × Src)) (e : Env) : Env :=
  ⟨fun i => match get i rn with | some (.blk j) => e.blk j | _ => e.blk i, fun i => match get i rn with | some (.own j) => e.row j | some (.lit j n) => (some ⟨e.blk j, 0, none⟩, n, n) | _ => e.row i⟩
def renC (rn : List (Nat × Src)) : Cap → Option Cap
  | .v x => some (.v x)
  | .p i => match get i rn with
    | some (.blk j) => some (.p j)
    | _ => none
def renA (rn : List (Nat × Src)) : SA → Option SA
  | .v x => some (.v x)
  | .p i o => match get i rn with
    | some (.blk j) => some (.p j o)
    | _ => none
  | .sl i o n c => match get i rn with
    | some (.blk j) => some (.sl j o n c)
    | _ => none
  | .row i => match get i rn with
    | some (.own j) => some (.row j)
    | some (.lit j n) => some (.sl j 0 n n)
    | _ => none
  | .q i o => match get i rn with
    | some (.own j) => some (.q j o)
    | some (.lit j _) => some (.p j o)
    | _ => none
  | .fn f fs cs => match allSome (renC rn) fs, allSome (renC rn) cs with
    | some a, some b => some (.fn f a b)
    | _, _ => none
def renT (rn : List (Nat × Src)) : TV → Option TV
  | .one x => match renA rn x with
    | some y => some (.one y)
    | none => none
  | .agg xs => match allSome (renA rn) xs with
    | some ys => some (.agg ys)
    | none => none
def renV (rn : List (Nat × Src)) : SV → Option SV
  | .one x => match renA rn x with
    | some y => some (.one y)
    | none => none
  | .agg xs => match allSome (renA rn) xs with
    | some ys => some (.agg ys)
    | none => none
  | .tup xs => match allSome (renT rn) xs with
    | some ys => some (.tup ys)
    | none => none
/-- Below k all numbers that are told. -/
def renLt (rn : List (Nat × Src)) (k : Nat) : Bool := rn.all fun p => Nat.blt p.1 k
def apartB : List Nat → Bool
  | [] => true
  | x :: r => !hasN x r && apartB r
def baseB (rn : List (Nat × Src)) : Nat → Bool
  | 0 => true
  | n + 1 => (match get n rn with | some (.blk j) => Nat.beq j n | _ => false) && baseB rn n
/-- The slots. -/
def entS (rn : List (Nat × Src)) (s : List (Nat × SV)) : List (Nat × SV) → Prop
  | [] => True
  | (t, v) :: r => (match renV rn v with
    | some v' => ∃ v0, get t s = some v0 ∧ v0 = v'
    | none => False) ∧ entS rn s r
/-- The memory. -/
def entM (rn : List (Nat × Src)) (m : List (Nat × LB)) : List (Nat × LB) → Prop
  | [] => True
  | (i, b) :: r => (match b with
    | .dead => False
    | .cells t cs => match get i rn, allSome (renA rn) cs with
      | some (.blk j), some cs' => ∃ cs0, get j m = some (.cells t cs0) ∧ cs0 = cs'
      | _, _ => False
    | .own E z n xs => match get i rn with
      | some (.own j) => ∃ n0 xs0, get j m = some (.own E z n0 xs0) ∧ n0 = n ∧ xs0 = xs
      | some (.lit j n') => n' = n ∧ n ≤ maxLen ∧ ∃ cs0, get j m = some (.cells E cs0) ∧ plainOf cs0 = some xs ∧ xs.length = n * z
      | _ => False) ∧ entM rn m r

section
variable {rn : List (Nat × Src)} {e : Env}
theorem renC_ok {c c' : Cap} (h : renC rn c = some c') : c.real (renE rn e) = c'.real e := by
  unfold renC at h
  split at h
  · cases h; rfl
  · split at h
    · rename_i i j hj
      cases h
      simp only [Cap.real, renE, hj]
    · cases h
theorem renA_ok {x y : SA} (h : renA rn x = some y) : x.real (renE rn e) = y.real e := by
  unfold renA at h
  split at h
  · cases h; rfl
  · split at h
    · rename_i hj
      cases h
      simp only [SA.real, renE, hj]
    · cases h
  · split at h
    · rename_i hj
      cases h
      simp only [SA.real, renE, hj]
    · cases h
  · split at h
    · rename_i hj
      cases h
      simp only [SA.real, Env.rv, renE, hj]
    · rename_i hj
      cases h
      simp only [SA.real, Env.rv, renE, hj]
    · cases h
  · split at h
    · rename_i hj
      cases h
      simp only [SA.real, renE, hj]
    · rename_i hj
      cases h
      simp only [SA.real, renE, hj]
      rfl
    · cases h
  · split at h
    · rename_i a b h1 h2
      cases h
      simp only [SA.real]
      rw [allSome_ok (Cap.real (renE rn e)) (Cap.real e) (fun x y hy => renC_ok hy) h1, allSome_ok (Cap.real (renE rn e)) (Cap.real e) (fun x y hy => renC_ok hy) h2]
    · cases h
theorem renAs_ok {xs ys : List SA} (h : allSome (renA rn) xs = some ys) : reals (renE rn e) xs = reals e ys := allSome_ok _ _ (fun x y hy => renA_ok hy) h
theorem renT_ok {x y : TV} (h : renT rn x = some y) : x.real (renE rn e) = y.real e := by
  unfold renT at h
  split at h
  · split at h
    · rename_i h1
      cases h
      exact renA_ok h1
    · cases h
  · split at h
    · rename_i h1
      cases h
      simp only [TV.real, renAs_ok h1]
    · cases h
theorem renV_ok {x y : SV} (h : renV rn x = some y) : x.real (renE rn e) = y.real e := by
  unfold renV at h
  split at h
  · split at h
    · rename_i h1
      cases h
      exact renA_ok h1
    · cases h
  · split at h
    · rename_i h1
      cases h
      simp only [SV.real, renAs_ok h1]
    · cases h
  · split at h
    · rename_i h1
      cases h
      simp only [SV.real]
      rw [allSome_ok (TV.real (renE rn e)) (TV.real e) (fun x y hy => renT_ok hy) h1]
    · cases h
theorem ren_lt {k i : Nat} {s : Src} (h : renLt rn k = true) (hi : get i rn = some s) : i < k := by
  have := List.all_eq_true.1 h _ (get_mem hi)
  rw [Nat.blt_eq] at this
  exact this
theorem renC_lt {k : Nat} (hk : renLt rn k = true) {c c' : Cap} (h : renC rn c = some c') : c.lt k := by
  unfold renC at h
  split at h
  · trivial
  · split at h
    · rename_i hj
      exact ren_lt hk hj
    · cases h
theorem allSome_src {α β : Type} {f : α → Option β} {q : α → Prop} (hf : ∀ x y, f x = some y → q x) : ∀ {l : List α} {ys : List β}, allSome f l = some ys → ∀ x ∈ l, q x
  | [], ys, hl => by simp
  | x :: r, ys, hl => by
    simp only [allSome] at hl
    split at hl
    · rename_i y ys' h1 h2
      intro z hz
      rcases List.mem_cons.1 hz with rfl | hz
      · exact hf _ _ h1
      · exact allSome_src hf h2 z hz
    · cases hl
/-- Of a cell that was one, what it is told as is one. -/
theorem renA_lt {k k0 : Nat} (hk : renLt rn k = true) {x y : SA} (h : renA rn x = some y) (hy : y.lt k0) : x.lt k := by
  unfold renA at h
  split at h
  · cases h; exact hy
  · split at h
    · rename_i hj; exact ren_lt hk hj
    · cases h
  · split at h
    · rename_i hj; exact ren_lt hk hj
    · cases h
  · split at h
    · rename_i hj; exact ren_lt hk hj
    · rename_i hj; exact ren_lt hk hj
    · cases h
  · split at h
    · rename_i hj; exact ren_lt hk hj
    · rename_i hj; exact ren_lt hk hj
    · cases h
  · split at h
    · rename_i a b h1 h2
      exact ⟨allSome_src (fun x y hy => renC_lt hk hy) h1, allSome_src (fun x y hy => renC_lt hk hy) h2⟩
    · cases h
theorem renA_lt0 {k : Nat} (hk : renLt rn k = true) {x y : SA} (h : renA rn x = some y) : x.lt0 k := by
  cases x with
  | v x => trivial
  | p i o =>
    simp only [renA] at h
    split at h
    · rename_i hj; exact ren_lt hk hj
    · cases h
  | sl i o n c =>
    simp only [renA] at h
    split at h
    · rename_i hj; exact ren_lt hk hj
    · cases h
  | row i =>
    simp only [renA] at h
    split at h
    · rename_i hj; exact ren_lt hk hj
    · rename_i hj; exact ren_lt hk hj
    · cases h
  | q i o =>
    simp only [renA] at h
    split at h
    · rename_i hj; exact ren_lt hk hj
    · rename_i hj; exact ren_lt hk hj
    · cases h
  | fn f fs cs =>
    simp only [renA] at h
    split at h
    · rename_i a b h1 h2
      exact ⟨allSome_src (fun x y hy => renC_lt hk hy) h1, allSome_src (fun x y hy => renC_lt hk hy) h2⟩
    · cases h
theorem renAs_lt {k k0 : Nat} (hk : renLt rn k = true) : ∀ {xs ys : List SA}, allSome (renA rn) xs = some ys → (∀ y ∈ ys, y.lt k0) → ∀ x ∈ xs, x.lt k
  | [], ys, hl, _ => by simp
  | x :: r, ys, hl, hy => by
    simp only [allSome] at hl
    split at hl
    · rename_i y ys' h1 h2
      cases hl
      intro z hz
      rcases List.mem_cons.1 hz with rfl | hz
      · exact renA_lt hk h1 (hy y List.mem_cons_self)
      · exact renAs_lt hk h2 (fun y hm => hy y (List.mem_cons_of_mem _ hm)) z hz
    · cases hl
theorem renT_lt {k k0 : Nat} (hk : renLt rn k = true) {x y : TV} (h : renT rn x = some y) (hy : y.lt k0) : x.lt k := by
  unfold renT at h
  split at h
  · split at h
    · rename_i h1
      cases h
      exact renA_lt0 hk h1
    · cases h
  · split at h
    · rename_i h1
      cases h
      exact renAs_lt hk h1 hy
    · cases h
theorem renTs_lt {k k0 : Nat} (hk : renLt rn k = true) : ∀ {xs ys : List TV}, allSome (renT rn) xs = some ys → (∀ y ∈ ys, y.lt k0) → ∀ x ∈ xs, x.lt k
  | [], ys, hl, _ => by simp
  | x :: r, ys, hl, hy => by
    simp only [allSome] at hl
    split at hl
    · rename_i y ys' h1 h2
      cases hl
      intro z hz
      rcases List.mem_cons.1 hz with rfl | hz
      · exact renT_lt hk h1 (hy y List.mem_cons_self)
      · exact renTs_lt hk h2 (fun y hm => hy y (List.mem_cons_of_mem _ hm)) z hz
    · cases hl
theorem renV_lt {k k0 : Nat} (hk : renLt rn k = true) {x y : SV} (h : renV rn x = some y) (hy : y.lt k0) : x.lt k := by
  unfold renV at h
  split at h
  · split at h
    · rename_i h1
      cases h
      exact renA_lt0 hk h1
    · cases h
  · split at h
    · rename_i h1
      cases h
      exact renAs_lt hk h1 hy
    · cases h
  · split at h
    · rename_i h1
      cases h
      exact renTs_lt hk h1 hy
    · cases h
theorem entS_mem {s : List (Nat × SV)} {t : Nat} {v : SV} : ∀ {l : List (Nat × SV)}, entS rn s l → (t, v) ∈ l → ∃ v', renV rn v = some v' ∧ get t s = some v'
  | (u, x) :: r, h, hm => by
    obtain ⟨h1, h2⟩ := h
    rcases List.mem_cons.1 hm with heq | hm
    · cases heq
      split at h1
      · rename_i v' hv'
        obtain ⟨v0, h3, rfl⟩ := h1
        exact ⟨_, hv', h3⟩
      · exact h1.elim
    · exact entS_mem h2 hm
def entB (rn : List (Nat × Src)) (m : List (Nat × LB)) (i : Nat) (b : LB) : Prop := match b with
    | .dead => False
    | .cells t cs => match get i rn, allSome (renA rn) cs with
      | some (.blk j), some cs' => ∃ cs0, get j m = some (.cells t cs0) ∧ cs0 = cs'
      | _, _ => False
    | .own E z n xs => match get i rn with
      | some (.own j) => ∃ n0 xs0, get j m = some (.own E z n0 xs0) ∧ n0 = n ∧ xs0 = xs
      | some (.lit j n') => n' = n ∧ n ≤ maxLen ∧ ∃ cs0, get j m = some (.cells E cs0) ∧ plainOf cs0 = some xs ∧ xs.length = n * z
      | _ => False
theorem entM_mem {m : List (Nat × LB)} {i : Nat} {b : LB} : ∀ {l : List (Nat × LB)}, entM rn m l → (i, b) ∈ l → entB rn m i b
  | (u, x) :: r, h, hm => by
    obtain ⟨h1, h2⟩ := h
    rcases List.mem_cons.1 hm with heq | hm
    · cases heq
      exact h1
    · exact entM_mem h2 hm
theorem base_of : ∀ {n i : Nat}, baseB rn n = true → i < n → get i rn = some (.blk i)
  | n + 1, i, h, hi => by
    simp only [baseB, Bool.and_eq_true] at h
    obtain ⟨h1, h2⟩ := h
    by_cases e1 : i = n
    · subst e1
      split at h1
      · rename_i j hj
        rw [Nat.beq_eq] at h1
        rw [hj, h1]
      · cases h1
    · exact base_of h2 (by omega)
theorem apart_of : ∀ {rn : List (Nat × Src)}, apartB (rn.map fun p => p.2.id) = true → ∀ {i i2 : Nat} {s s2 : Src}, (i, s) ∈ rn → (i2, s2) ∈ rn → s.id = s2.id → i = i2
  | [], _, i, i2, s, s2, h1, _, _ => by cases h1
  | (j, u) :: r, h, i, i2, s, s2, h1, h2, he => by
    simp only [List.map_cons, apartB, Bool.and_eq_true, Bool.not_eq_true'] at h
    obtain ⟨h3, h4⟩ := h
    have hno : ∀ {i : Nat} {s : Src}, (i, s) ∈ r → s.id ≠ u.id := by
      intro i s hm heq
      have : hasN u.id (r.map fun p => p.2.id) = true := hasN_iff.2 (by rw [← heq]; exact List.mem_map.2 ⟨_, hm, rfl⟩)
      rw [this] at h3
      cases h3
    rcases List.mem_cons.1 h1 with e1 | h1 <;> rcases List.mem_cons.1 h2 with e2 | h2
    · cases e1; cases e2; rfl
    · cases e1
      exact absurd he.symm (hno h2)
    · cases e2
      exact absurd he (hno h1)
    · exact apart_of h4 h1 h2 he
end
def entF (f : List (World → Prop)) : List (World → Prop) → Prop
  | [] => True
  | F :: r => (Up F ∧ ∀ w, AllF f w → F w) ∧ entF f r
theorem entF_mem {f : List (World → Prop)} {F : World → Prop} : ∀ {l : List (World → Prop)}, entF f l → F ∈ l → Up F ∧ ∀ w, AllF f w → F w
  | G :: r, h, hm => by
    obtain ⟨h1, h2⟩ := h
    rcases List.mem_cons.1 hm with rfl | hm
    · exact h1
    · exact entF_mem h2 hm
theorem ent_ren {st st' : St} (rn : List (Nat × Src)) (hlt : renLt rn st'.k = true) (hap : apartB (rn.map fun p => p.2.id) = true) (hbase : baseB rn st.b = true) (hb : st'.b = st.b) (hbk : st'.b ≤ st'.k)
    (hs : entS rn st.s st'.s) (hm : entM rn st.m st'.m) (hf : entF st.f st'.f) : Ent st st' := by
  refine ⟨fun cx e a w hS => ⟨renE rn e, ?_⟩⟩
  have hsrc : ∀ {i g}, At (renE rn e) st'.m i g → ∃ s, get i rn = some s ∧ At e st.m s.id g := by
    rintro i g ⟨b, hb, hg⟩
    have h1 := entM_mem hm (get_mem hb)
    unfold entB at h1
    split at h1
    · cases hg
    · rename_i t cs
      split at h1
      · rename_i j cs' hj hcs
        obtain ⟨cs0, h2, _⟩ := h1
        simp only [LB.block, renE, hj] at hg
        exact ⟨_, hj, _, h2, hg⟩
      · exact h1.elim
    · rename_i E z n xs
      split at h1
      · rename_i j hj
        obtain ⟨n0, xs0, h2, _⟩ := h1
        simp only [LB.block, Env.rv, renE, hj] at hg
        exact ⟨_, hj, _, h2, hg⟩
      · rename_i j n' hj
        obtain ⟨_, _, cs0, h2, _⟩ := h1
        simp only [LB.block, Env.rv, renE, hj, Value.ownBlock] at hg
        exact ⟨_, hj, _, h2, hg⟩
      · exact h1.elim
  refine ⟨hS.base.trans hb.symm, hS.size, hS.defers, fun i v hi => ?_, ?_⟩
  · obtain ⟨v', h1, h2⟩ := entS_mem hs (get_mem hi)
    obtain ⟨h3, h4⟩ := hS.slots i v' h2
    exact ⟨renV_lt hlt h1 h3, by rw [h4, renV_ok h1]⟩
  · refine ⟨hS.mem.fr, fun i hi => ?_, by rw [hS.base, ← hb]; exact hbk, fun i t cs hi => ?_, fun i E z n xs hi => ?_, fun i b hi => ?_, fun i g hg => ?_, fun i i2 g h1 h2 => ?_, fun F hF => (entF_mem hf hF).1, fun F hF => ?_⟩
    · have := base_of hbase (by rw [← hS.base]; exact hi)
      simp only [renE, this]
      exact hS.mem.ids i hi
    · have h1 := entM_mem hm (get_mem hi)
      simp only [entB] at h1
      split at h1
      · rename_i j cs' hj hcs
        obtain ⟨cs0, h2, rfl⟩ := h1
        have := hS.mem.cells _ _ _ h2
        rw [renAs_ok hcs]
        simp only [renE, hj]
        exact this
      · exact h1.elim
    · have h1 := entM_mem hm (get_mem hi)
      simp only [entB] at h1
      split at h1
      · rename_i j hj
        obtain ⟨n0, xs0, h2, rfl, rfl⟩ := h1
        have := hS.mem.own _ _ _ _ _ h2
        simp only [Env.rv, renE, hj]
        exact this
      · rename_i j n' hj
        obtain ⟨rfl, hmax, cs0, h2, h3, h4⟩ := h1
        have hbk := hS.mem.cells _ _ _ h2
        rw [plainOf_ok e h3] at hbk
        simp only [Env.rv, renE, hj]
        refine ⟨h4, .inr ⟨e.blk j, n', xs.toArray, rfl, Nat.zero_le _, hbk, Nat.le_refl _, hmax, by simpa using h4, ?_⟩⟩
        rw [← h4]
        simp
      · exact h1.elim
    · have h1 := entM_mem hm (get_mem hi)
      unfold entB at h1
      split at h1
      · exact h1.elim
      · rename_i t cs
        split at h1
        · rename_i j cs' hj hcs
          obtain ⟨cs0, h2, rfl⟩ := h1
          exact ⟨ren_lt hlt hj, renAs_lt hlt hcs (hS.mem.sc _ _ h2).2⟩
        · exact h1.elim
      · rename_i E z n xs
        split at h1
        · rename_i j hj
          exact ⟨ren_lt hlt hj, trivial⟩
        · rename_i j n' hj
          exact ⟨ren_lt hlt hj, trivial⟩
        · exact h1.elim
    · obtain ⟨s, _, h1⟩ := hsrc hg
      exact hS.mem.free _ g h1
    · obtain ⟨s, h3, h4⟩ := hsrc h1
      obtain ⟨s2, h5, h6⟩ := hsrc h2
      exact apart_of hap (get_mem h3) (get_mem h5) (hS.mem.apart _ _ _ h4 h6)
    · obtain ⟨hu, h1⟩ := entF_mem hf hF
      refine hu _ _ (hide_ext fun g o hg hn => ⟨hg, fun hx => hn ?_⟩) (h1 _ hS.mem.hidden)
      rcases hx with hx | ⟨i, hx⟩
      · exact .inl hx
      · obtain ⟨s, _, h2⟩ := hsrc hx
        exact .inr ⟨_, h2⟩

/-! ### A row that is written no more -/
def frzA (i : Nat) (v : Value) : SA → SA
  | .row j => match Nat.beq i j with
    | true => .v v
    | false => .row j
  | x => x
def frzT (i : Nat) (v : Value) : TV → TV
  | .one x => .one (frzA i v x)
  | .agg xs => .agg (xs.map (frzA i v))
def frzV (i : Nat) (v : Value) : SV → SV
  | .one x => .one (frzA i v x)
  | .agg xs => .agg (xs.map (frzA i v))
  | .tup xs => .tup (xs.map (frzT i v))
def frzS (i : Nat) (v : Value) : List (Nat × SV) → List (Nat × SV)
  | [] => []
  | (t, x) :: r => (t, frzV i v x) :: frzS i v r
def frzM (i : Nat) (v : Value) : List (Nat × LB) → List (Nat × LB)
  | [] => []
  | (t, .cells u cs) :: r => (t, .cells u (cs.map (frzA i v))) :: frzM i v r
  | (t, b) :: r => (t, b) :: frzM i v r
section
variable {i : Nat} {v : Value} {e : Env}
theorem frzA_ok (h : e.rv i = v) (x : SA) : (frzA i v x).real e = x.real e := by
  unfold frzA
  split
  · rename_i j
    split
    · rename_i hb
      obtain rfl : i = j := by rw [← Nat.beq_eq]; exact hb
      exact h.symm
    · rfl
  · rfl
theorem frzAs_ok (h : e.rv i = v) (xs : List SA) : reals e (xs.map (frzA i v)) = reals e xs := by
  simp only [reals, List.map_map]
  exact List.map_congr_left fun x _ => frzA_ok h x
theorem frzT_ok (h : e.rv i = v) (x : TV) : (frzT i v x).real e = x.real e := by
  cases x with
  | one x => exact frzA_ok h x
  | agg xs => simp only [frzT, TV.real, frzAs_ok h]
theorem frzV_ok (h : e.rv i = v) (x : SV) : (frzV i v x).real e = x.real e := by
  cases x with
  | one x => exact frzA_ok h x
  | agg xs => simp only [frzV, SV.real, frzAs_ok h]
  | tup xs =>
    simp only [frzV, SV.real, List.map_map]
    congr 2
    exact List.map_congr_left fun x _ => frzT_ok h x
theorem frzA_lt {k : Nat} (h1 : v.oneCell' = true) {x : SA} (h : x.lt k) : (frzA i v x).lt k := by
  unfold frzA
  split
  · split
    · exact h1
    · exact h
  · exact h
theorem frzA_lt0 {k : Nat} {x : SA} (h : x.lt0 k) : (frzA i v x).lt0 k := by
  unfold frzA
  split
  · split
    · trivial
    · exact h
  · exact h
theorem frzV_lt {k : Nat} (h1 : v.oneCell' = true) {x : SV} (h : x.lt k) : (frzV i v x).lt k := by
  cases x with
  | one x => exact frzA_lt0 h
  | agg xs =>
    intro y hy
    obtain ⟨z, hz, rfl⟩ := List.mem_map.1 hy
    exact frzA_lt h1 (h z hz)
  | tup xs =>
    intro y hy
    obtain ⟨z, hz, rfl⟩ := List.mem_map.1 hy
    have := h z hz
    cases z with
    | one x => exact frzA_lt0 this
    | agg ys =>
      intro y hy
      obtain ⟨q, hq, rfl⟩ := List.mem_map.1 hy
      exact frzA_lt h1 (this q hq)
theorem get_frzS {t : Nat} {u : SV} : ∀ {s : List (Nat × SV)}, get t (frzS i v s) = some u → ∃ u0, get t s = some u0 ∧ u = frzV i v u0
  | [], h => by cases h
  | (t0, x) :: r, h => by
    simp only [frzS] at h
    rcases get_cons h with ⟨rfl, rfl⟩ | ⟨hne, h⟩
    · exact ⟨x, get_self _ _ _, rfl⟩
    · obtain ⟨u0, h1, h2⟩ := get_frzS h
      exact ⟨u0, by rw [get_ne hne]; exact h1, h2⟩
theorem get_frzM {t : Nat} {b : LB} : ∀ {m : List (Nat × LB)}, get t (frzM i v m) = some b → ∃ b0, get t m = some b0 ∧ ((∃ u cs, b0 = .cells u cs ∧ b = .cells u (cs.map (frzA i v))) ∨ (b = b0 ∧ ∀ u cs, b0 ≠ .cells u cs))
  | [], h => by cases h
  | (t0, x) :: r, h => by
    cases x with
    | cells u cs =>
      simp only [frzM] at h
      rcases get_cons h with ⟨rfl, rfl⟩ | ⟨hne, h⟩
      · exact ⟨_, get_self _ _ _, .inl ⟨u, cs, rfl, rfl⟩⟩
      · obtain ⟨u0, h1, h2⟩ := get_frzM h
        exact ⟨u0, by rw [get_ne hne]; exact h1, h2⟩
    | dead =>
      simp only [frzM] at h
      rcases get_cons h with ⟨rfl, rfl⟩ | ⟨hne, h⟩
      · exact ⟨_, get_self _ _ _, .inr ⟨rfl, fun u cs h => by cases h⟩⟩
      · obtain ⟨u0, h1, h2⟩ := get_frzM h
        exact ⟨u0, by rw [get_ne hne]; exact h1, h2⟩
    | own E z n xs =>
      simp only [frzM] at h
      rcases get_cons h with ⟨rfl, rfl⟩ | ⟨hne, h⟩
      · exact ⟨_, get_self _ _ _, .inr ⟨rfl, fun u cs h => by cases h⟩⟩
      · obtain ⟨u0, h1, h2⟩ := get_frzM h
        exact ⟨u0, by rw [get_ne hne]; exact h1, h2⟩
end
def freeze (i : Nat) (v : Value) (F : World → Prop) (st : St) : St := { st with s := frzS i v st.s, m := (i, .dead) :: frzM i v st.m, f := F :: st.f }
theorem Mem.row_seen {cx : Cx} {e : Env} {m : List (Nat × LB)} {k : Nat} {f : List (World → Prop)} {w : World} (h : Mem cx e m k f w) {i E z n : Nat} {xs : List Value} (hi : get i m = some (.own E z n xs)) (H' : Nat → Prop) (hH : ∀ g, At e m i g → ¬ H' g) :
    ∃ A c, e.rv i = .slice A n c ∧ (A = none → n = 0 ∧ c = 0) ∧ n ≤ c ∧ c ≤ maxLen ∧ SlAt (hide H' w) A xs := by
  have h1 := h.own i E z n xs hi
  rcases h1.2 with ⟨hv, h0⟩ | ⟨g, cap, cur, hv, _, hh, hnc, hcm, hcs, ht⟩
  · refine ⟨none, 0, by rw [hv, h0], fun _ => ⟨h0, rfl⟩, by omega, by simp [maxLen], ?_⟩
    have : xs = [] := List.eq_nil_of_length_eq_zero (by rw [h1.1, h0, Nat.zero_mul])
    rw [this]
    exact SlAt.nil _ _
  · refine ⟨some ⟨g, 0, none⟩, cap, hv, fun hn => (by cases hn), hnc, hcm, fun j u hj => ⟨_, rfl, ?_⟩⟩
    have hb := hide_block hh (hH g ⟨_, hi, by simp only [LB.block, hv, Value.ownBlock]⟩)
    rw [add_off, cell_of_row _ g (0 + j) cur E (0, 0) hb]
    rw [← ht, List.getElem?_take] at hj
    split at hj
    · simpa using hj
    · cases hj
theorem sat_freeze {cx : Cx} {e : Env} {st : St} {a : Act} {w : World} (hS : Sat cx e st a w) {i E z n : Nat} {xs : List Value} (hi : get i st.m = some (.own E z n xs)) :
    ∃ A c, (A = none → n = 0 ∧ c = 0) ∧ n ≤ c ∧ c ≤ maxLen ∧ Sat cx e (freeze i (.slice A n c) (fun w => SlAt w A xs) st) a w := by
  have hm := hS.mem
  have hat : ∀ {v : Value} {j g}, At e ((i, LB.dead) :: frzM i v st.m) j g → j ≠ i ∧ At e st.m j g := by
    rintro v j g ⟨b, hb, hg⟩
    rcases get_cons hb with ⟨rfl, rfl⟩ | ⟨hne, hb⟩
    · cases hg
    · obtain ⟨b0, h1, h2⟩ := get_frzM hb
      refine ⟨hne, b0, h1, ?_⟩
      rcases h2 with ⟨u, cs, rfl, rfl⟩ | ⟨rfl, _⟩
      · exact hg
      · exact hg
  obtain ⟨A, c, hv, h1, h2, h3, h4⟩ := hm.row_seen hi (fun g => cx.H g ∨ ∃ j, j ≠ i ∧ At e st.m j g) (by
    intro g hg hx
    rcases hx with hx | ⟨j, hne, hx⟩
    · rcases hm.free i g hg with h | h
      · exact Nat.lt_irrefl _ (Nat.lt_of_lt_of_le (cx.hH g hx) h)
      · exact cx.hG g h hx
    · exact hne (hm.apart _ _ _ hx hg))
  refine ⟨A, c, h1, h2, h3, hS.base, hS.size, hS.defers, fun t u hu => ?_, hm.fr, hm.ids, hm.low, fun j t cs hj => ?_, fun j E' z' n' xs' hj => ?_, fun j b hj => ?_, fun j g hg => hm.free j g (hat hg).2, fun j l g hj hl => hm.apart j l g (hat hj).2 (hat hl).2, fun F hF => ?_, fun F hF => ?_⟩
  · obtain ⟨u0, h5, rfl⟩ := get_frzS hu
    obtain ⟨h6, h7⟩ := hS.slots _ _ h5
    exact ⟨frzV_lt rfl h6, by rw [h7, frzV_ok hv]⟩
  · rcases get_cons hj with ⟨rfl, e1⟩ | ⟨hne, hj⟩
    · cases e1
    · obtain ⟨b0, h5, h6⟩ := get_frzM hj
      rcases h6 with ⟨u, cs0, rfl, h7⟩ | ⟨h7, h8⟩
      · cases h7
        rw [frzAs_ok hv]
        exact hm.cells _ _ _ h5
      · exact absurd h7.symm (h8 _ _)
  · rcases get_cons hj with ⟨rfl, e1⟩ | ⟨hne, hj⟩
    · cases e1
    · obtain ⟨b0, h5, h6⟩ := get_frzM hj
      rcases h6 with ⟨u, cs0, rfl, h7⟩ | ⟨h7, h8⟩
      · cases h7
      · rw [← h7] at h5
        exact hm.own _ _ _ _ _ h5
  · rcases get_cons hj with ⟨rfl, e1⟩ | ⟨hne, hj⟩
    · subst e1
      exact ⟨(hm.sc _ _ hi).1, trivial⟩
    · obtain ⟨b0, h5, h6⟩ := get_frzM hj
      obtain ⟨h7, h8⟩ := hm.sc _ _ h5
      refine ⟨h7, ?_⟩
      rcases h6 with ⟨u, cs0, rfl, rfl⟩ | ⟨rfl, _⟩
      · intro x hx
        obtain ⟨q, hq, rfl⟩ := List.mem_map.1 hx
        exact frzA_lt rfl (h8 q hq)
      · exact h8
  · rcases List.mem_cons.1 hF with rfl | hF
    · exact SlAt.up A xs
    · exact hm.up F hF
  · have hsub : ∀ g, (cx.H g ∨ Own e ((i, LB.dead) :: frzM i (.slice A n c) st.m) g) → (cx.H g ∨ ∃ j, j ≠ i ∧ At e st.m j g) := by
      rintro g (hx | ⟨j, hx⟩)
      · exact .inl hx
      · exact .inr ⟨j, hat hx⟩
    rcases List.mem_cons.1 hF with rfl | hF
    · exact SlAt.up A xs _ _ (hide_ext fun g o hg hn => ⟨hg, fun hx => hn (hsub g hx)⟩) h4
    · refine hm.up F hF _ _ (hide_ext fun g o hg hn => ⟨hg, fun hx => hn ?_⟩) (hm.facts F hF)
      rcases hsub g hx with hx | ⟨j, _, hx⟩
      · exact .inl hx
      · exact .inr ⟨j, hx⟩
theorem Walks.freeze {P : Program} {N : Nat} {c : Code} {K : Exit → St → Prop} {st : St} (i : Nat) {E z n : Nat} {xs : List Value} (hi : get i st.m = some (.own E z n xs))
    (h : ∀ A cp, (A = none → n = 0 ∧ cp = 0) → n ≤ cp → cp ≤ maxLen → Walks P N c K (Sym.freeze i (.slice A n cp) (fun w => SlAt w A xs) st)) : Walks P N c K st :=
  ⟨fun cx e a w hn hS => let ⟨A, cp, h1, h2, h3, hS'⟩ := sat_freeze hS hi; (h A cp h1 h2 h3).run cx e a w hn hS'⟩
end Go.Proofs.Sym
