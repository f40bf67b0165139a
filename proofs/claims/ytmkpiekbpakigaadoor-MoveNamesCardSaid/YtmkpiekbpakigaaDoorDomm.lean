/- What the claim needs of SymV, SymX, Al2, Pl2, Cb0, Al3, Al4, in one text. -/
import Derived.Test.YtmkpiekbpakigaaDoorDome
import Derived.Test.YtmkpiekbpakigaaDoorDomg
import Derived.Test.YtmkpiekbpakigaaDoorDoml
section
set_option linter.unusedVariables false
set_option linter.unusedSimpArgs false
namespace Go.Proofs.Sym
open Go.RowKit Go.Proofs.Base Go.Proofs.Mono
structure Rn where
 v : SV := .one (.v undef)
 m : List (Nat × LB) := []
 f : List (World -> Prop) := []
 ok : Prop := True
def offN (lo hi i : Nat) : Bool := Nat.blt i lo || Nat.ble hi i
def Cap.off (lo hi : Nat) : Cap -> Bool
 | .p i => offN lo hi i
 | .v _ => true
def SA.off (lo hi : Nat) : SA -> Bool
 | .v _ => true
 | .p i _ | .sl i _ _ _ | .row i | .q i _ => offN lo hi i
 | .fn _ fs cs => fs.all (Cap.off lo hi) && cs.all (Cap.off lo hi)
def TV.off (lo hi : Nat) : TV -> Bool
 | .one x => x.off lo hi
 | .agg xs => xs.all (SA.off lo hi)
def SV.off (lo hi : Nat) : SV -> Bool
 | .one x => x.off lo hi
 | .agg xs => xs.all (SA.off lo hi)
 | .tup xs => xs.all (TV.off lo hi)
def LB.off (lo hi : Nat) : LB -> Bool
 | .cells _ cs => cs.all (SA.off lo hi)
 | _ => true
def Env.off (lo hi : Nat) (e e' : Env) : Prop := ∀ i, offN lo hi i = true -> e'.blk i = e.blk i /\ e'.row i = e.row i
section
variable {lo hi : Nat} {e e' : Env}
theorem zqq (h : e.off lo hi e') {xs : List Cap} (hx : xs.all (Cap.off lo hi) = true) : xs.map (Cap.real e') = xs.map (Cap.real e) :=
 List.map_congr_left fun x m => by
  have := List.all_eq_true.1 hx x m
  cases x with
  | p i => simp only [Cap.real, (h i this).1]
  | v _ => rfl
theorem SA.real_off (h : e.off lo hi e') : ∀ {x : SA}, x.off lo hi = true -> x.real e' = x.real e
 | .v _, _ => rfl
 | .p i o, hx => by simp only [SA.real, (h i hx).1]
 | .sl i o n c, hx => by simp only [SA.real, (h i hx).1]
 | .row i, hx => by simp only [SA.real, Env.rv, (h i hx).2]
 | .q i o, hx => by simp only [SA.real, (h i hx).2]
 | .fn f fs cs, hx => by
  simp only [SA.off, Bool.and_eq_true] at hx
  simp only [SA.real, zqq h hx.1, zqq h hx.2]
theorem zjb (h : e.off lo hi e') {xs : List SA} (hx : xs.all (SA.off lo hi) = true) : reals e' xs = reals e xs :=
 List.map_congr_left fun x m => SA.real_off h (List.all_eq_true.1 hx x m)
theorem SV.real_off (h : e.off lo hi e') : ∀ {x : SV}, x.off lo hi = true -> x.real e' = x.real e
 | .one x, hx => SA.real_off (x := x) h hx
 | .agg xs, hx => by simp only [SV.real, zjb h hx]
 | .tup xs, hx => by
  simp only [SV.real]
  rw [List.map_congr_left fun x m => ?_]
  have := List.all_eq_true.1 hx x m
  cases x with
  | one x => exact SA.real_off (x := x) h this
  | agg xs => simp only [TV.real, zjb h this]
end
def memR (A : Nat -> Rn) (p : Nat -> Bool) : Nat -> List (Nat × LB)
 | 0 => []
 | n + 1 => (match p n with | true => (A n).m | false => []) ++ memR A p n
def facR (A : Nat -> Rn) (p : Nat -> Bool) : Nat -> List (World -> Prop)
 | 0 => []
 | n + 1 => (match p n with | true => (A n).f | false => []) ++ facR A p n
def zep (N : Nat) (ops : Array Oper) (A : Nat -> Rn) (p : Nat -> Bool) : Nat -> List (Nat × SV)
 | 0 => []
 | n + 1 => (match p n with
  | true => match zbk ops n with
   | some t => match Nat.blt t N with
    | true => [(t, (A n).v)]
    | false => []
   | none => []
  | false => []) ++ zep N ops A p n
theorem zzt {α : Type _} {i j : Nat} {x y : α} (h : get i [(j, x)] = some y) : i = j /\ x = y := by
 rcases zah h with h | ⟨_, h⟩
 ·exact h
 ·cases h
section
variable {A B : Nat -> Rn} {p q : Nat -> Bool} {i : Nat} {m0 : List (Nat × LB)}
theorem zsu : ∀ {n : Nat}, (∀ j, j < n -> p j = true -> A j = B j) -> memR A p n = memR B p n
 | 0, _ => rfl
 | n + 1, h => by
  simp only [memR]
  rw [zsu fun j hj hp => h j (Nat.lt_succ_of_lt hj) hp]
  cases hp : p n with
  | false => rfl
  | true => simp only [h n (Nat.lt_succ_self n) hp]
theorem zf2 : ∀ {n : Nat}, (∀ j, j < n -> p j ≠ q j -> get i (A j).m = none) -> get i (memR A p n) = get i (memR A q n)
 | 0, _ => rfl
 | n + 1, h => by
  simp only [memR, zal, zf2 fun j hj hp => h j (Nat.lt_succ_of_lt hj) hp]
  by_cases hpq : p n = q n
  ·rw [hpq]
  ·have := h n (Nat.lt_succ_self n) hpq
   cases hp : p n <;> cases hq : q n <;> simp only [hp, hq, ne_eq, not_true_eq_false] at hpq <;> simp only [get, this]
theorem zij {b : LB} : ∀ {n : Nat}, get i (memR A p n) = some b -> ∃ j, j < n /\ p j = true /\ get i (A j).m = some b
 | 0, h => by cases h
 | n + 1, h => by
  simp only [memR, zal] at h
  cases hp : p n with
  | false =>
   rw [hp] at h
   obtain ⟨j, h1, h2⟩ := zij h
   exact ⟨j, Nat.lt_succ_of_lt h1, h2⟩
  | true =>
   rw [hp] at h
   simp only at h
   split at h
   ·rename_i v hv
    cases h
    exact ⟨n, Nat.lt_succ_self n, hp, hv⟩
   ·obtain ⟨j, h1, h2⟩ := zij h
    exact ⟨j, Nat.lt_succ_of_lt h1, h2⟩
theorem zpg {k : Nat} (hpk : p k = false) (hqk : q k = true) (hne : ∀ j, j ≠ k -> q j = p j) : ∀ {n : Nat}, k < n -> (∀ j, k < j -> j < n -> p j = true -> get i (A j).m = none \/ get i (A k).m = none) ->
  get i (memR A q n ++ m0) = get i ((A k).m ++ (memR A p n ++ m0))
 | 0, h, _ => by omega
 | n + 1, hk, h => by
  by_cases e : n = k
  ·subst e
   have h1 : get i (memR A q n) = get i (memR A p n) := zf2 fun j hj hd => absurd (hne j (by omega)) hd
   simp only [memR, hpk, hqk, List.nil_append, List.append_assoc]
   simp only [zal, h1]
  ·have ih := zpg hpk hqk hne (n := n) (by omega) fun j h1 h2 h3 => h j h1 (by omega) h3
   have hq := hne n e
   simp only [memR, hq, List.append_assoc]
   rw [zal, ih]
   cases hp : p n with
   | false => rfl
   | true =>
    simp only [zal]
    rcases h n (by omega) (Nat.lt_succ_self n) hp with h2 | h2
    ·simp only [h2]
    ·simp only [h2]
theorem zej {F : World -> Prop} : ∀ {n : Nat}, F ∈ facR A p n ↔ ∃ j, j < n /\ p j = true /\ F ∈ (A j).f
 | 0 => by simp [facR]
 | n + 1 => by
  simp only [facR, List.mem_append, zej (n := n)]
  constructor
  ·rintro (h | ⟨j, h1, h2⟩)
   ·cases hp : p n with
    | false => rw [hp] at h; cases h
    | true => rw [hp] at h; exact ⟨n, Nat.lt_succ_self n, hp, h⟩
   ·exact ⟨j, Nat.lt_succ_of_lt h1, h2⟩
  ·rintro ⟨j, h1, h2, h3⟩
   by_cases e : j = n
   ·subst e
    exact .inl (by rw [h2]; exact h3)
   ·exact .inr ⟨j, by omega, h2, h3⟩
theorem zb3 {N t : Nat} {ops : Array Oper} {v : SV} : ∀ {n : Nat}, get t (zep N ops A p n) = some v -> ∃ j, j < n /\ p j = true /\ zbk ops j = some t /\ t < N /\ (A j).v = v
 | 0, h => by cases h
 | n + 1, h => by
  have ih : get t (zep N ops A p n) = some v -> ∃ j, j < n + 1 /\ p j = true /\ zbk ops j = some t /\ t < N /\ (A j).v = v := fun h => by
   obtain ⟨j, h1, h2⟩ := zb3 h
   exact ⟨j, Nat.lt_succ_of_lt h1, h2⟩
  simp only [zep, zal] at h
  split at h
  ·rename_i v' hv
   cases h
   split at hv
   ·rename_i hp
    split at hv
    ·rename_i t' ht
     split at hv
     ·rename_i hb
      obtain ⟨rfl, rfl⟩ := zzt hv
      exact ⟨n, Nat.lt_succ_self n, hp, ht, by rw [<- Nat.blt_eq]; exact hb, rfl⟩
     ·cases hv
    ·cases hv
   ·cases hv
  ·exact ih h
theorem zcs {N t : Nat} {ops : Array Oper} : ∀ {n : Nat}, get t (zep N ops A p n) = none -> ∀ j, j < n -> p j = true -> zbk ops j = some t -> ¬ t < N
 | 0, _, j, hj, _, _ => by omega
 | n + 1, h, j, hj, hp, hd => by
  simp only [zep, zal] at h
  split at h
  ·cases h
  ·rename_i hv
   by_cases e : j = n
   ·subst e
    rw [hp, hd] at hv
    simp only at hv
    split at hv
    ·rw [za4] at hv
     cases hv
    ·rename_i hb
     intro hlt
     rw [<- Nat.blt_eq, hb] at hlt
     cases hlt
   ·exact zcs h j (by omega) hp hd
end
def seen (H : List Nat) : List (Nat × LB) -> List (Nat × LB)
 | [] => []
 | (i, b) :: r => match hasN i H with
  | true => seen H r
  | false => (i, b) :: seen H r
theorem zif {H : List Nat} {i : Nat} : ∀ {m : List (Nat × LB)}, get i (seen H m) = match hasN i H with | true => none | false => get i m
 | [] => by
  simp only [seen, get]
  split <;> rfl
 | (j, b) :: r => by
  have ih := zif (H := H) (i := i) (m := r)
  simp only [seen]
  by_cases e : i = j
  ·subst e
   cases h : hasN i H with
   | true =>
    rw [h] at ih
    exact ih
   | false => simp only [za4]
  ·split
   ·rw [ih, zbw e]
   ·rw [zbw e, zbw e, ih]
def dget (i : Nat) (m : List (Nat × LB)) : LB := match get i m with
 | some b => b
 | none => .dead
theorem zso {m : List (Nat × LB)} {i : Nat} : ∀ {U : List Nat}, get i (U.map fun j => (j, dget j m)) = match hasN i U with | true => some (dget i m) | false => none
 | [] => rfl
 | j :: r => by
  by_cases e : i = j
  ·subst e
   simp only [List.map_cons, za4, hasN, Nat.beq_refl]
  ·have : Nat.beq i j = false := by rw [<- Bool.not_eq_true, Nat.beq_eq]; exact e
   simp only [List.map_cons, zbw e, hasN, this]
   exact zso
section
variable {cx : Cx} {e : Env} {m : List (Nat × LB)} {kb : Nat} {f : List (World -> Prop)} {w : World} {m1 : List (Nat × LB)}
theorem Mem.congr (h : Mem cx e m kb f w) {m' : List (Nat × LB)} (hm : ∀ i, get i m' = get i m) {f' : List (World -> Prop)} (hf : ∀ F ∈ f', F ∈ f) : Mem cx e m' kb f' w := by
 have hat : ∀ {i g}, At e m' i g ↔ At e m i g := fun {i g} => by unfold At; rw [hm]
 refine ⟨h.fr, h.ids, h.low, fun i t cs hi => h.cells i t cs (by rw [<- hm]; exact hi), fun i E z n xs hi => h.own i E z n xs (by rw [<- hm]; exact hi), fun i b hi => h.sc i b (by rw [<- hm]; exact hi), fun i g hg => h.free i g (hat.1 hg), fun i j g hi hj => h.apart i j g (hat.1 hi) (hat.1 hj), fun F hF => h.up F (hf F hF), fun F hF => ?_⟩
 refine h.up F (hf F hF) _ _ (zax fun g o hg hn => ⟨hg, fun hx => hn ?_⟩) (h.facts F (hf F hF))
 rcases hx with hx | ⟨i, hx⟩
 ·exact .inl hx
 ·exact .inr ⟨i, hat.1 hx⟩
def zv5 (e : Env) (m1 : List (Nat × LB)) (g : Nat) : Prop := ∃ i, At e m1 i g
def zsy (cx : Cx) (e : Env) (m m1 : List (Nat × LB)) (w : World) (hH : ∀ g, cx.H g \/ Own e m g -> g < w.heap.size) : Cx :=
 { w0 := w, G := zv5 e m1, H := fun g => (cx.H g \/ Own e m g) /\ ¬ zv5 e m1 g, hH := fun g hg => hH g hg.1, hG := fun g hg hx => hx.2 hg, e0 := cx.e0, n0 := cx.n0, n := cx.n, d := cx.d }
theorem ze9 (hs : ∀ i b, get i m1 = some b -> get i m = some b) {i g : Nat} (h : At e m1 i g) : At e m i g := by
 obtain ⟨b, hb, hg⟩ := h
 exact ⟨b, hs i b hb, hg⟩
theorem Mem.part (hm : Mem cx e m kb f w) {lo : Nat} (hs : ∀ i b, get i m1 = some b -> get i m = some b) (hlt : ∀ i b, get i m1 = some b -> i < lo /\ b.lt lo) (hlo : cx.n0 <= lo) {f1 : List (World -> Prop)} (hf : ∀ F ∈ f1, F ∈ f) :
  Mem (zsy cx e m m1 w hm.hid) e m1 lo f1 w := by
 refine ⟨Fr.refl _ _, hm.ids, hlo, fun i t cs hi => hm.cells i t cs (hs _ _ hi), fun i E z n xs hi => hm.own i E z n xs (hs _ _ hi), hlt, fun i g hg => .inr ⟨i, hg⟩, fun i j g hi hj => hm.apart i j g (ze9 hs hi) (ze9 hs hj), fun F hF => hm.up F (hf F hF), fun F hF => ?_⟩
 refine hm.up F (hf F hF) _ _ (zax fun g o hg hn => ⟨hg, fun hx => hn ?_⟩) (hm.facts F (hf F hF))
 rcases hx with hx | ⟨i, hx⟩
 ·exact hx.1
 ·exact .inr ⟨i, ze9 hs hx⟩
theorem Mem.join (hm : Mem cx e m kb f w) {lo hi : Nat} (hs : ∀ i b, get i m1 = some b -> get i m = some b) (hlt : ∀ i b, get i m1 = some b -> i < lo) {e' : Env} {m1' : List (Nat × LB)} {f1 : List (World -> Prop)} {w' : World}
  (h1 : Mem (zsy cx e m m1 w hm.hid) e' m1' hi f1 w') (hhi : hi <= kb) {e2 : Env} (hin : e'.eqTo hi e2) {U : List Nat} {fn : List (World -> Prop)}
  (hkeep : ∀ i b, get i m1 = some b -> hasN i U = false -> get i m1' = some b) (hU : ∀ i, hasN i U = true -> i < kb /\ ∀ b, get i m = some b -> get i m1 = some b)
  (hrest : ∀ i b, get i m = some b -> get i m1 = none -> (e2.blk i = e.blk i /\ e2.row i = e.row i) /\ ∀ t cs, b = .cells t cs -> reals e2 cs = reals e cs)
  (hup : ∀ F ∈ fn, Up F) (hfn : ∀ w, AllF f1 w -> AllF fn w) :
  Mem cx e2 ((U.map fun i => (i, dget i m1')) ++ m) kb (fn ++ f) w' := by
 have hcase : ∀ {j x}, get j ((U.map fun i => (i, dget i m1')) ++ m) = some x -> (x = .dead /\ j < kb) \/ get j m1' = some x \/ (get j m = some x /\ get j m1 = none) := by
  intro j x hj
  rw [zal, zso] at hj
  cases hb : hasN j U with
  | true =>
   rw [hb] at hj
   simp only [Option.some.injEq] at hj
   subst hj
   unfold dget
   cases hg : get j m1' with
   | none => exact .inl ⟨rfl, (hU j hb).1⟩
   | some b => exact .inr (.inl rfl)
  | false =>
   rw [hb] at hj
   simp only at hj
   cases h1j : get j m1 with
   | none => exact .inr (.inr ⟨hj, rfl⟩)
   | some b =>
    have := hs j b h1j
    rw [hj] at this
    cases this
    exact .inr (.inl (hkeep j x h1j hb))
 have hblk : ∀ {i x}, get i m1' = some x -> x.block e2 i = x.block e' i := fun hx => LB.block_eq hin (h1.sc _ _ hx).1 _
 have hrb : ∀ {i x}, get i m = some x -> get i m1 = none -> x.block e2 i = x.block e i := by
  intro i x hx hn
  obtain ⟨⟨ha, hb⟩, _⟩ := hrest i x hx hn
  cases x with
  | dead => rfl
  | cells t cs => simp only [LB.block, ha]
  | own E z n xs => simp only [LB.block, Env.rv, hb]
 have hat : ∀ {j g}, At e2 ((U.map fun i => (i, dget i m1')) ++ m) j g -> At e' m1' j g \/ (At e m j g /\ get j m1 = none) := by
  rintro j g ⟨b, hb, hg⟩
  rcases hcase hb with ⟨rfl, _⟩ | h2 | ⟨h2, h3⟩
  ·cases hg
  ·exact .inl ⟨b, h2, by rw [<- hblk h2]; exact hg⟩
  ·exact .inr ⟨⟨b, h2, by rw [<- hrb h2 h3]; exact hg⟩, h3⟩
 have hnot : ∀ {j g}, At e m j g -> get j m1 = none -> ¬ zv5 e m1 g := by
  rintro j g hg hn ⟨i, hi⟩
  have := hm.apart _ _ _ hg (ze9 hs hi)
  subst this
  obtain ⟨b, hb, _⟩ := hi
  rw [hn] at hb
  cases hb
 have hsame : ∀ {j g}, At e m j g -> get j m1 = none -> w'.heap[g]? = w.heap[g]? := fun hg hn => h1.fr.block _ (hm.lt hg) (hnot hg hn)
 have hown : ∀ {g}, zv5 e m1 g -> Own e m g := fun ⟨i, hi⟩ => ⟨i, ze9 hs hi⟩
 refine ⟨hm.fr.trans h1.fr fun g hg hx => ?_, fun i hi2 => ?_, hm.low, fun j t cs hj => ?_, fun j E z n xs hj => ?_, fun j b hj => ?_, fun j g hg => ?_, fun j l g hj hlg => ?_, fun G hG => ?_, fun G hG => ?_⟩
 ·obtain ⟨i, hi2⟩ := hx
  rcases hm.free i g (ze9 hs hi2) with h2 | h2
  ·omega
  ·exact h2
 ·rw [(hin i (Nat.lt_of_lt_of_le hi2 h1.low)).1]
  exact h1.ids i hi2
 ·rcases hcase hj with ⟨h2, _⟩ | h2 | ⟨h2, h3⟩
  ·cases h2
  ·rw [(hin j (h1.sc _ _ h2).1).1, zdb hin (h1.sc _ _ h2).2]
   exact h1.cells _ _ _ h2
  ·obtain ⟨⟨ha, _⟩, hc⟩ := hrest j _ h2 h3
   rw [ha, hc _ _ rfl]
   exact (hsame ⟨_, h2, rfl⟩ h3).trans (hm.cells _ _ _ h2)
 ·rcases hcase hj with ⟨h2, _⟩ | h2 | ⟨h2, h3⟩
  ·cases h2
  ·simp only [Env.rv, (hin j (h1.sc _ _ h2).1).2]
   exact h1.own _ _ _ _ _ h2
  ·obtain ⟨⟨_, hb⟩, _⟩ := hrest j _ h2 h3
   simp only [Env.rv, hb]
   exact zd4 (hm.own _ _ _ _ _ h2) fun g hg => hsame ⟨_, h2, hg⟩ h3
 ·rcases hcase hj with ⟨rfl, h2⟩ | h2 | ⟨h2, _⟩
  ·exact ⟨h2, trivial⟩
  ·have h3 := h1.sc _ _ h2
   exact ⟨Nat.lt_of_lt_of_le h3.1 hhi, LB.lt_mono hhi h3.2⟩
  ·exact hm.sc _ _ h2
 ·rcases hat hg with h2 | ⟨h2, _⟩
  ·rcases h1.free j g h2 with h3 | ⟨i, h3⟩
   ·exact .inl (Nat.le_trans hm.fr.size h3)
   ·exact hm.free i g (ze9 hs h3)
  ·exact hm.free j g h2
 ·have mix : ∀ {i j}, At e' m1' i g -> At e m j g -> get j m1 = none -> False := by
   intro i j hi2 hj2 hn
   rcases h1.free i g hi2 with h3 | h3
   ·have := hm.lt hj2
    have h3 : w.heap.size <= g := h3
    omega
   ·exact hnot hj2 hn h3
  rcases hat hj with h2 | ⟨h2, h3⟩
  ·rcases hat hlg with h4 | ⟨h4, h5⟩
   ·exact h1.apart _ _ _ h2 h4
   ·exact (mix h2 h4 h5).elim
  ·rcases hat hlg with h4 | ⟨h4, h5⟩
   ·exact (mix h4 h2 h3).elim
   ·exact hm.apart _ _ _ h2 h4
 ·rcases List.mem_append.1 hG with hG | hG
  ·exact hup G hG
  ·exact hm.up G hG
 ·rcases List.mem_append.1 hG with hG | hG
  ·have hall := hfn _ h1.hidden
   rw [zhd] at hall
   refine hup G hG _ _ (zax fun g o hg hn => ⟨hg, fun hx => hn ?_⟩) (hall G hG)
   rcases hx with hx | ⟨j, hx⟩
   ·refine .inl ⟨.inl hx, ?_⟩
    rintro ⟨i, hi2⟩
    exact hm.others (ze9 hs hi2) (.inl hx)
   ·rcases hat hx with h2 | ⟨h2, h3⟩
    ·exact .inr ⟨j, h2⟩
    ·exact .inl ⟨.inr ⟨j, h2⟩, hnot h2 h3⟩
  ·refine hm.up G hG _ _ (zax fun g o hg hn => ?_) (hm.facts G hG)
   have hlt2 := (Array.getElem?_eq_some_iff.1 hg).1
   refine ⟨(h1.fr.block g hlt2 (fun hx => hn (.inr (hown hx)))).trans hg, fun hx => hn ?_⟩
   rcases hx with hx | ⟨j, hx⟩
   ·exact .inl hx
   ·rcases hat hx with h2 | ⟨h2, _⟩
    ·rcases h1.free j g h2 with h3 | h3
     ·have h3 : w.heap.size <= g := h3
      omega
     ·exact .inr (hown h3)
    ·exact .inr ⟨j, h2⟩
end
end Go.Proofs.Sym
end
section
set_option linter.unusedVariables false
set_option linter.unusedSimpArgs false
namespace Go.Proofs.Sym
open Go.RowKit Go.Proofs.Base Go.Proofs.Mono
structure Pn where
 n : Nat
 tb : List Nat
 at' : List Nat
 us : List (List Nat)
def Pn.at (p : Pn) (k : Nat) : Nat := p.at'.getD k 0
def Pn.u (p : Pn) (k : Nat) : List Nat := p.us.getD k []
def Pn.free (p : Pn) (j k : Nat) : Bool := match Nat.beq j k with
 | true => false
 | false => match zay p.tb j k with
  | true => false
  | false => match zay p.tb k j with
   | true => false
   | false => true
def Pn.hid (p : Pn) (k : Nat) : List Nat := (List.range p.n).flatMap fun j => match p.free j k with
 | true => p.u j
 | false => []
def Pn.okB (p : Pn) : Bool := (List.range p.n).all fun k => Nat.ble (p.at k) (p.at (k + 1)) && (p.u k).all (fun i => Nat.blt i (p.at (k + 1))) && (List.range p.n).all fun j => match Nat.beq j k with
 | true => true
 | false => match zay p.tb j k with
  | true => true
  | false => (p.u j).all fun i => offN (p.at k) (p.at (k + 1)) i && (zay p.tb k j || !hasN i (p.u k))
def Pn.gapB (p : Pn) (j : Nat) (a : Rn) : Bool := (List.range j).all fun k => match zay p.tb j k with
 | true => true
 | false => match Nat.ble (p.at (k + 1)) (p.at k) with
  | true => true
  | false => a.v.off (p.at k) (p.at (k + 1)) && a.m.all fun x => x.2.off (p.at k) (p.at (k + 1))
def Pn.loc (p : Pn) (N : Nat) (ops : Array Oper) (st : St) (A : Nat -> Rn) (k : Nat) (o : Oper) : St :=
 { s := zo8 (o.looksAt ops) (zep N ops A (zay p.tb k) p.n ++ st.s), m := seen (p.hid k) (memR A (zay p.tb k) p.n ++ st.m), k := p.at k, f := facR A (zay p.tb k) p.n ++ st.f, b := st.b }
def Pn.fin (p : Pn) (N : Nat) (ops : Array Oper) (st : St) (A : Nat -> Rn) : St :=
 { s := zep N ops A (fun _ => true) p.n ++ st.s, m := memR A (fun _ => true) p.n ++ st.m, k := p.at p.n, f := facR A (fun _ => true) p.n ++ st.f, b := st.b }
def Pn.oth (p : Pn) (k : Nat) : List Nat := (List.range p.n).filter fun j => match Nat.beq j k with
 | true => false
 | false => match zay p.tb j k with
  | true => false
  | false => true
def Pn.old (p : Pn) (k : Nat) (m : List (Nat × LB)) : List Nat := (m.map (·.1)).filter fun i => !hasN i (p.u k)
def gdOf (ops : Array Oper) (s : List (Nat × SV)) (o : Oper) : Option Bool := match o.guard with
 | none => some true
 | some (g, want) => match (ops[g]?).bind (·.dst) with
  | none => none
  | some t => match get t s with
   | some (.one (.v (.bool b))) => match b with
    | true => some want
    | false => some (!want)
   | some (.one (.v (.tuple _))) => some false
   | _ => none
def upL : List (World -> Prop) -> Prop
 | [] => True
 | F :: r => Up F /\ upL r
theorem zto : ∀ {l : List (World -> Prop)}, upL l -> ∀ F ∈ l, Up F
 | G :: r, h, F, hF => by
  rcases List.mem_cons.1 hF with rfl | hF
  ·exact h.1
  ·exact zto h.2 F hF
def Pn.post (p : Pn) {Y : Type} (A : Y -> Nat -> Rn) (k : Nat) (y : Y) (st1 : St) (v : SV) (st' : St) : Prop :=
 ∃ y', (p.oth k).map (A y') = (p.oth k).map (A y) /\ (A y' k).ok /\ v = (A y' k).v /\ st'.k = p.at (k + 1) /\ (p.u k).map (fun i => (i, dget i st'.m)) = (A y' k).m /\ (p.old k st1.m).map (fun i => get i st'.m) = (p.old k st1.m).map (fun i => get i st1.m) /\ p.gapB k (A y' k) = true /\ (∀ w, AllF st'.f w -> AllF (A y' k).f w) /\ upL (A y' k).f
structure zzr (P : Program) (T : Tab) (N : Nat) (ops : Array Oper) (p : Pn) {Y : Type} (A : Y -> Nat -> Rn) (st : St) (k : Nat) : Prop where
 run : ∀ y, (∀ j, zay p.tb k j = true -> (A y j).ok) -> ∃ (o : Oper) (st1 : St), ops[k]? = some o /\ p.loc N ops st (A y) k o = st1 /\
  ((gdOf ops st1.s o = some true /\ ∃ sg, sig T st1 o = sg /\ sigK P sg st1 (p.post A k y st1) (fun _ _ => False)) \/ (gdOf ops st1.s o = some false /\ p.post A k y st1 (.one (.v undef)) st1))
def zzf (q : Nat -> Prop) : List Nat -> Prop
 | [] => True
 | k :: r => q k /\ zzf q r
theorem znp {q : Nat -> Prop} {k : Nat} : ∀ {l : List Nat}, zzf q l -> k ∈ l -> q k
 | j :: r, h, hk => by
  rcases List.mem_cons.1 hk with rfl | hk
  ·exact h.1
  ·exact znp h.2 hk
structure zabw (P : Program) (T : Tab) (N : Nat) (ops : Array Oper) (K : St -> Prop) (st : St) : Prop where
 ex : ∃ (p : Pn) (Y : Type) (_ : Y) (A : Y -> Nat -> Rn), (Region.before ops).toList = p.tb /\ ops.size = p.n /\ p.tb.length = p.n /\ zfa ops = true /\ zgf p.tb = true /\ p.okB = true /\ p.at 0 = st.k /\
  zzf (zzr P T N ops p A st) (List.range p.n) /\ ∀ y, (∀ j, j < p.n -> (A y j).ok) -> K (p.fin N ops st (A y))
theorem zhm {α β : Type _} {f g : α -> β} : ∀ {l : List α}, l.map f = l.map g -> ∀ x ∈ l, f x = g x
 | y :: r, h, x, hx => by
  simp only [List.map_cons, List.cons.injEq] at h
  rcases List.mem_cons.1 hx with rfl | hx
  ·exact h.1
  ·exact zhm h.2 x hx
theorem ztc {α : Type _} {i : Nat} {v : α} : ∀ {m : List (Nat × α)}, get i m = some v -> i ∈ m.map (·.1)
 | (j, x) :: r, h => by
  rcases zah h with ⟨rfl, rfl⟩ | ⟨_, h⟩
  ·exact List.mem_cons_self
  ·exact List.mem_cons_of_mem _ (ztc h)
theorem zqr {α : Type _} {i : Nat} {v : α} : ∀ {m : List (Nat × α)}, get i m = some v -> (i, v) ∈ m
 | (j, x) :: r, h => by
  rcases zah h with ⟨rfl, rfl⟩ | ⟨_, h⟩
  ·exact List.mem_cons_self
  ·exact List.mem_cons_of_mem _ (zqr h)
theorem Pn.free_iff {p : Pn} {j k : Nat} : p.free j k = true ↔ j ≠ k /\ zay p.tb j k = false /\ zay p.tb k j = false := by
 unfold Pn.free
 cases h : Nat.beq j k with
 | true => simp [Nat.eq_of_beq_eq_true h]
 | false =>
  have hne : j ≠ k := fun e => by rw [e, Nat.beq_refl] at h; cases h
  cases h1 : zay p.tb j k <;> cases h2 : zay p.tb k j <;> simp [hne]
theorem Pn.hid_mem {p : Pn} {i k : Nat} : hasN i (p.hid k) = true ↔ ∃ j, j < p.n /\ p.free j k = true /\ i ∈ p.u j := by
 rw [zbj]
 unfold Pn.hid
 simp only [List.mem_flatMap, List.mem_range]
 constructor
 ·rintro ⟨j, h1, h2⟩
  cases hf : p.free j k with
  | true => rw [hf] at h2; exact ⟨j, h1, hf, h2⟩
  | false => rw [hf] at h2; cases h2
 ·rintro ⟨j, h1, h2, h3⟩
  exact ⟨j, h1, by rw [h2]; exact h3⟩
theorem Pn.ok_at {p : Pn} (h : p.okB = true) {k : Nat} (hk : k < p.n) : p.at k <= p.at (k + 1) /\ (∀ i ∈ p.u k, i < p.at (k + 1)) /\ ∀ j, j < p.n -> j ≠ k -> zay p.tb j k = false -> ∀ i ∈ p.u j, offN (p.at k) (p.at (k + 1)) i = true /\ (zay p.tb k j = true \/ i ∉ p.u k) := by
 have h1 := List.all_eq_true.1 h k (List.mem_range.2 hk)
 simp only [Bool.and_eq_true] at h1
 refine ⟨Nat.le_of_ble_eq_true h1.1.1, fun i hi => ?_, fun j hj hne hb i hi => ?_⟩
 ·have := List.all_eq_true.1 h1.1.2 i hi
  rw [<- Nat.blt_eq]
  exact this
 ·have h2 := List.all_eq_true.1 h1.2 j (List.mem_range.2 hj)
  have hbq : Nat.beq j k = false := by rw [<- Bool.not_eq_true, Nat.beq_eq]; exact hne
  rw [hbq, hb] at h2
  simp only at h2
  have h3 := List.all_eq_true.1 h2 i hi
  rw [Bool.and_eq_true] at h3
  refine ⟨h3.1, ?_⟩
  have h4 := h3.2
  rw [Bool.or_eq_true, Bool.not_eq_true'] at h4
  rcases h4 with h4 | h4
  ·exact .inl h4
  ·refine .inr fun hx => ?_
   rw [zbj.2 hx] at h4
   cases h4
theorem Pn.mono {p : Pn} (h : p.okB = true) {a b : Nat} (hab : a <= b) (hb : b <= p.n) : p.at a <= p.at b := by
 induction b with
 | zero => rw [Nat.le_zero.1 hab]; exact Nat.le_refl _
 | succ b ih =>
  by_cases e : a = b + 1
  ·rw [e]; exact Nat.le_refl _
  ·exact Nat.le_trans (ih (by omega) (by omega)) (p.ok_at h (by omega)).1
structure RInv (cx : Cx) (ops : Array Oper) (p : Pn) (st : St) {Y : Type} (A : Y -> Nat -> Rn) (L : Nat -> Bool) (y : Y) (e : Env) (a : Act) (w : World) : Prop where
 ok : ∀ k, k < p.n -> L k = true -> (A y k).ok
 lt : ∀ k, k < p.n -> L k = true -> (A y k).v.lt (p.at (k + 1)) /\ ∀ i b, get i (A y k).m = some b -> i < p.at (k + 1) /\ b.lt (p.at (k + 1))
 keys : ∀ k, k < p.n -> L k = true -> ∀ i b, get i (A y k).m = some b -> i ∈ p.u k
 gap : ∀ k, k < p.n -> L k = true -> p.gapB k (A y k) = true
 mem : Mem cx e (memR (A y) L p.n ++ st.m) (p.at p.n) (facR (A y) L p.n ++ st.f) w
 slots : ∀ t v, get t (zep cx.n ops (A y) L p.n ++ st.s) = some v -> a.tmps[t]? = some (v.real e)
section
variable {P : Program} {T : Tab} {cx : Cx} {ops : Array Oper} {p : Pn} {st : St} {Y : Type} {A : Y -> Nat -> Rn} {K : Exit -> St -> Prop} {L : Nat -> Bool} {y : Y} {e : Env} {a : Act} {w : World}
theorem zvj {k j : Nat} {b : Rn} (h : p.gapB j b = true) (hkj : k < j) (hb : zay p.tb j k = false) : (p.at (k + 1) <= p.at k) \/ (b.v.off (p.at k) (p.at (k + 1)) = true /\ ∀ x ∈ b.m, x.2.off (p.at k) (p.at (k + 1)) = true) := by
 have h1 := List.all_eq_true.1 h k (List.mem_range.2 hkj)
 rw [hb] at h1
 simp only at h1
 split at h1
 ·rename_i h2
  exact .inl (Nat.le_of_ble_eq_true h2)
 ·rw [Bool.and_eq_true] at h1
  exact .inr ⟨h1.1, fun x hx => List.all_eq_true.1 h1.2 x hx⟩
theorem zwe (hT : T.Ok P) (Tb : zfg ops) (hbit : ∀ k j, bef ops k j = zay p.tb k j) (hlt : ∀ k j, zay p.tb k j = true -> j < k) (hn : ops.size = p.n) (hpn : p.okB = true) (h0 : p.at 0 = st.k) (hlow : cx.n0 <= st.k)
  (hbm : ∀ i b, get i st.m = some b -> i < st.k /\ b.lt st.k) (hbs : ∀ t v, get t st.s = some v -> v.lt st.k) (hb0 : cx.n0 = st.b) (has : a.tmps.size = cx.n) (had : a.defers = cx.d)
  (hI : RInv cx ops p st A L y e a w) {k : Nat} {o : Oper} (ho : ops[k]? = some o) (hk : k < p.n) (hLk : L k = false) (hpre : ∀ j, zay p.tb k j = true -> L j = true) (hcl : ∀ j, j < p.n -> L j = true -> zay p.tb j k = false)
  (hst : zzr P T cx.n ops p A st k) {next : Act -> World -> Prop} {Q : Exit -> Act -> World -> Prop}
  (hnext : ∀ y' e' v w' L', (∀ j, L' j = if j = k then true else L j) -> RInv cx ops p st A L' y' e' (a.put o.dst v) w' -> next (a.put o.dst v) w') :
  if Region.wanted o (yielded ops a.tmps) = true then o.wp P a w next Q else next (a.put o.dst undef) w := by
 have hdst : zbk ops k = o.dst := by simp [zbk, ho]
 obtain ⟨o', st1, ho', hst1, hrun⟩ := hst.run y fun j hj => hI.ok j (Nat.lt_trans (hlt k j hj) hk) (hpre j hj)
 rw [ho] at ho'
 cases ho'
 have hkn := p.mono hpn (Nat.le_of_lt hk) (Nat.le_refl _)
 have hk1n := p.mono hpn hk (Nat.le_refl _)
 have h0k := p.mono hpn (Nat.zero_le k) (Nat.le_of_lt hk)
 rw [h0] at h0k
 -- what it sees of memory
 have hsee : ∀ i, hasN i (p.hid k) = false -> get i (memR (A y) (zay p.tb k) p.n) = get i (memR (A y) L p.n) := by
  intro i hi
  refine zf2 fun j hj hne => ?_
  cases hbj : zay p.tb k j with
  | true => exact absurd (hbj.trans (hpre j hbj).symm) hne
  | false =>
   rw [hbj] at hne
   have hLj : L j = true := by
    cases h : L j with
    | true => rfl
    | false => exact absurd h.symm hne
   cases hg : get i (A y j).m with
   | none => rfl
   | some b =>
    have := hI.keys j hj hLj i b hg
    have hjk : j ≠ k := fun e1 => by rw [e1, hLk] at hLj; cases hLj
    rw [Pn.hid_mem.2 ⟨j, hj, Pn.free_iff.2 ⟨hjk, hcl j hj hLj, hbj⟩, this⟩] at hi
    cases hi
 have hm1 : st1.m = seen (p.hid k) (memR (A y) (zay p.tb k) p.n ++ st.m) := by rw [<- hst1]; rfl
 have hk1 : st1.k = p.at k := by rw [<- hst1]; rfl
 have hf1 : st1.f = facR (A y) (zay p.tb k) p.n ++ st.f := by rw [<- hst1]; rfl
 have hb1 : st1.b = st.b := by rw [<- hst1]; rfl
 have hgm : ∀ i b, get i st1.m = some b -> hasN i (p.hid k) = false /\ get i (memR (A y) L p.n ++ st.m) = some b := by
  intro i b hi
  rw [hm1, zif] at hi
  cases hh : hasN i (p.hid k) with
  | true => rw [hh] at hi; cases hi
  | false =>
   rw [hh] at hi
   simp only [zal, hsee i hh] at hi ⊢
   exact ⟨trivial, hi⟩
 have hgn : ∀ i, hasN i (p.hid k) = false -> ∀ b, get i (memR (A y) L p.n ++ st.m) = some b -> get i st1.m = some b := by
  intro i hh b hb
  rw [hm1, zif, hh]
  simp only [zal, hsee i hh] at hb ⊢
  exact hb
 have hmlt : ∀ i b, get i st1.m = some b -> i < p.at k /\ b.lt (p.at k) := by
  intro i b hi
  rw [hm1, zif] at hi
  split at hi
  ·cases hi
  ·rw [zal] at hi
   split at hi
   ·rename_i b' hb'
    cases hi
    obtain ⟨j, h1, h2, h3⟩ := zij hb'
    have hjk := hlt k j h2
    obtain ⟨h4, h5⟩ := (hI.lt j h1 (hpre j h2)).2 i _ h3
    have := p.mono hpn (show j + 1 <= k from hjk) (Nat.le_of_lt hk)
    exact ⟨Nat.lt_of_lt_of_le h4 this, LB.lt_mono this h5⟩
   ·have := hbm i b hi
    exact ⟨Nat.lt_of_lt_of_le this.1 h0k, LB.lt_mono h0k this.2⟩
 have hff : ∀ F ∈ st1.f, F ∈ facR (A y) L p.n ++ st.f := by
  intro F hF
  rw [hf1] at hF
  rcases List.mem_append.1 hF with hF | hF
  ·obtain ⟨j, h1, h2, h3⟩ := zej.1 hF
   exact List.mem_append_left _ (zej.2 ⟨j, h1, hpre j h2, h3⟩)
  ·exact List.mem_append_right _ hF
 have hmp := hI.mem.part (m1 := st1.m) (lo := p.at k) (fun i b hi => (hgm i b hi).2) hmlt (Nat.le_trans hlow h0k) hff
 obtain ⟨cx1, hcx⟩ : ∃ cx1, cx1 = zsy cx e (memR (A y) L p.n ++ st.m) st1.m w hI.mem.hid := ⟨_, rfl⟩
 have hS : Sat cx1 e st1 a w := by
  subst hcx
  refine ⟨by rw [hb1]; exact hb0, has, had, fun t v ht => ?_, by rw [hk1]; exact hmp⟩
  rw [<- hst1] at ht
  obtain ⟨hlook, ht⟩ := zdn ht
  rw [hk1]
  rw [zal] at ht
  split at ht
  ·rename_i v' hv'
   cases ht
   obtain ⟨j, h1, h2, h3, h4, rfl⟩ := zb3 hv'
   have hjk := hlt k j h2
   refine ⟨SV.lt_mono (p.mono hpn (show j + 1 <= k from hjk) (Nat.le_of_lt hk)) (hI.lt j h1 (hpre j h2)).1, hI.slots t _ ?_⟩
   rw [zal]
   cases hg : get t (zep cx.n ops (A y) L p.n) with
   | none => exact absurd h4 (zcs hg j h1 (hpre j h2) h3)
   | some u =>
    obtain ⟨i, g1, g2, g3, g4, rfl⟩ := zb3 hg
    rw [Tb.uniq (by omega) (by omega) g3 h3]
  ·rename_i hno
   refine ⟨SV.lt_mono h0k (hbs t v ht), hI.slots t v ?_⟩
   rw [zal]
   cases hg : get t (zep cx.n ops (A y) L p.n) with
   | none => exact ht
   | some u =>
    obtain ⟨i, g1, g2, g3, g4, rfl⟩ := zb3 hg
    exfalso
    have hik : i ≠ k := fun e1 => by rw [e1, hLk] at g2; cases g2
    rcases Tb.looks ho hlook (by omega) hik g3 with h5 | h5
    ·rw [hbit] at h5
     exact zcs hno i g1 h5 g3 g4
    ·rw [hbit, hcl i g1 g2] at h5
     cases h5
 -- behind it
 have fin : ∀ e' st' v w', p.post A k y st1 v st' -> e.eqTo st1.k e' -> v.lt st'.k -> Mem cx1 e' st'.m st'.k st'.f w' -> next (a.put o.dst (v.real e')) w' := by
  rintro e' st' v w' ⟨y', hoth, hok, rfl, hk', hmU, hold, hgap, hff', hup⟩ he hv hm'
  subst hcx
  rw [hk1] at he
  rw [hk'] at hv hm'
  have hA : ∀ j, j < p.n -> j ≠ k -> zay p.tb j k = false -> A y' j = A y j := fun j hj hne hb => zhm hoth j (by
   unfold Pn.oth
   refine List.mem_filter.2 ⟨List.mem_range.2 hj, ?_⟩
   have : Nat.beq j k = false := by rw [<- Bool.not_eq_true, Nat.beq_eq]; exact hne
   rw [this, hb])
  have hAL : ∀ j, j < p.n -> L j = true -> A y j = A y' j := fun j hj hLj => (hA j hj (fun e1 => by rw [e1, hLk] at hLj; cases hLj) (hcl j hj hLj)).symm
  obtain ⟨e2, hee⟩ : ∃ e2 : Env, e2 = ⟨fun i => if offN (p.at k) (p.at (k + 1)) i = true then e.blk i else e'.blk i, fun i => if offN (p.at k) (p.at (k + 1)) i = true then e.row i else e'.row i⟩ := ⟨_, rfl⟩
  have hin : e'.eqTo (p.at (k + 1)) e2 := by
   subst hee
   intro i hi
   by_cases h : offN (p.at k) (p.at (k + 1)) i = true
   ·have hlo : i < p.at k := by
     simp only [offN, Bool.or_eq_true, Nat.blt_eq, Nat.ble_eq] at h
     omega
    simp only [if_pos h]
    exact ⟨(he i hlo).1.symm, (he i hlo).2.symm⟩
   ·simp only [if_neg h]
    exact ⟨trivial, trivial⟩
  have hof : e.off (p.at k) (p.at (k + 1)) e2 := by
   subst hee
   intro i hi
   simp only [if_pos hi]
   exact ⟨trivial, trivial⟩
  have hbase : e.eqTo (p.at k) e2 := fun i hi => hof i (by simp only [offN, Bool.or_eq_true, Nat.blt_eq]; exact .inl hi)
  have hsv : ∀ j, j < p.n -> L j = true -> (A y j).v.real e2 = (A y j).v.real e := by
   intro j hj hLj
   have hjk : j ≠ k := fun e1 => by rw [e1, hLk] at hLj; cases hLj
   by_cases hlt2 : j < k
   ·exact SV.real_eq (hbase) (SV.lt_mono (p.mono hpn (show j + 1 <= k from hlt2) (Nat.le_of_lt hk)) (hI.lt j hj hLj).1)
   ·rcases zvj (hI.gap j hj hLj) (by omega) (hcl j hj hLj) with h3 | h3
    ·refine SV.real_off (lo := p.at j) (hi := p.at j) (e := e) (fun i hi => hof i ?_) ?_
     ·simp only [offN, Bool.or_eq_true, Nat.blt_eq, Nat.ble_eq]
      omega
     ·have hall : ∀ i, offN (p.at j) (p.at j) i = true := fun i => by
       simp only [offN, Bool.or_eq_true, Nat.blt_eq, Nat.ble_eq]
       omega
      have hc : ∀ x : Cap, x.off (p.at j) (p.at j) = true := fun x => by cases x <;> simp [Cap.off, hall]
      have hs : ∀ x : SA, x.off (p.at j) (p.at j) = true := fun x => by cases x <;> simp [SA.off, hall, hc]
      have ht : ∀ x : TV, x.off (p.at j) (p.at j) = true := fun x => by cases x <;> simp [TV.off, hs]
      cases (A y j).v <;> simp [SV.off, hs, ht]
    ·exact SV.real_off hof h3.1
  have hsm : ∀ i b, get i (memR (A y) L p.n ++ st.m) = some b -> get i st1.m = none -> (e2.blk i = e.blk i /\ e2.row i = e.row i) /\ ∀ t cs, b = .cells t cs -> reals e2 cs = reals e cs := by
   intro i b hi hnone
   rw [zal] at hi
   split at hi
   ·rename_i b' hb'
    cases hi
    obtain ⟨j, hj, hLj, hg⟩ := zij hb'
    have hjk : j ≠ k := fun e1 => by rw [e1, hLk] at hLj; cases hLj
    have hu := hI.keys j hj hLj i _ hg
    have hio := ((p.ok_at hpn hk).2.2 j hj hjk (hcl j hj hLj) i hu).1
    refine ⟨hof i hio, fun t cs hb => ?_⟩
    subst hb
    have hbl := ((hI.lt j hj hLj).2 i _ hg).2
    by_cases hlt2 : j < k
    ·exact zdb hbase fun c hc => SA.lt_mono (p.mono hpn (show j + 1 <= k from hlt2) (Nat.le_of_lt hk)) (hbl c hc)
    ·rcases zvj (hI.gap j hj hLj) (by omega) (hcl j hj hLj) with h3 | h3
     ·refine zdb (k := p.at (j + 1)) (fun q hq => hof q ?_) hbl
      simp only [offN, Bool.or_eq_true, Nat.blt_eq, Nat.ble_eq]
      omega
     ·exact zjb hof (h3.2 _ (zqr hg))
   ·obtain ⟨h3, h4⟩ := hbm i b hi
    refine ⟨hbase i (Nat.lt_of_lt_of_le h3 h0k), fun t cs hb => ?_⟩
    subst hb
    exact zdb hbase fun c hc => SA.lt_mono h0k (h4 c hc)
  have hU : ∀ i, hasN i (p.u k) = true -> i < p.at p.n /\ ∀ b, get i (memR (A y) L p.n ++ st.m) = some b -> get i st1.m = some b := by
   intro i hi
   have hi := zbj.1 hi
   refine ⟨Nat.lt_of_lt_of_le ((p.ok_at hpn hk).2.1 i hi) hk1n, hgn i ?_⟩
   rw [<- Bool.not_eq_true, Pn.hid_mem]
   rintro ⟨j, h1, h2, h3⟩
   obtain ⟨h4, h5, h6⟩ := Pn.free_iff.1 h2
   rcases ((p.ok_at hpn hk).2.2 j h1 h4 h5 i h3).2 with h7 | h7
   ·rw [h6] at h7
    cases h7
   ·exact h7 hi
  have hkeep : ∀ i b, get i st1.m = some b -> hasN i (p.u k) = false -> get i st'.m = some b := by
   intro i b hi hu
   have := zhm hold i (by
    unfold Pn.old
    refine List.mem_filter.2 ⟨ztc hi, by rw [hu]; rfl⟩)
   rw [this]
   exact hi
  have hj := hI.mem.join (m1 := st1.m) (fun i b hi => (hgm i b hi).2) (fun i b hi => (hmlt i b hi).1) hm' hk1n hin hkeep hU hsm (zto hup) hff'
  rw [hmU] at hj
  obtain ⟨L', hL'⟩ : ∃ L' : Nat -> Bool, ∀ j, L' j = if j = k then true else L j := ⟨fun j => if j = k then true else L j, fun _ => rfl⟩
  have hL1 : L' k = true := by rw [hL', if_pos rfl]
  have hL2 : ∀ j, j ≠ k -> L' j = L j := fun j hj => by rw [hL', if_neg hj]
  have hcs : ∀ {q : Nat -> Prop}, q k -> (∀ j, j < p.n -> L j = true -> A y j = A y' j -> q j) -> ∀ j, j < p.n -> L' j = true -> q j := by
   intro q hq hq2 j hj hLj
   by_cases e1 : j = k
   ·rw [e1]; exact hq
   ·rw [hL2 j e1] at hLj
    exact hq2 j hj hLj (hAL j hj hLj)
  have hUget : ∀ i b, get i (A y' k).m = some b -> i ∈ p.u k /\ b = dget i st'.m := by
   intro i b hi
   rw [<- hmU, zso] at hi
   split at hi
   ·rename_i h
    cases hi
    exact ⟨zbj.1 h, rfl⟩
   ·cases hi
  refine hnext y' e2 _ w' L' hL' ⟨hcs hok fun j hj hLj hE => by rw [<- hE]; exact hI.ok j hj hLj, hcs ⟨hv, fun i b hi => ?_⟩ fun j hj hLj hE => by rw [<- hE]; exact hI.lt j hj hLj, hcs (fun i b hi => (hUget i b hi).1) fun j hj hLj hE => by rw [<- hE]; exact hI.keys j hj hLj, hcs hgap fun j hj hLj hE => by rw [<- hE]; exact hI.gap j hj hLj, ?_, fun t u ht => ?_⟩
  ·obtain ⟨h1, rfl⟩ := hUget i b hi
   refine ⟨(p.ok_at hpn hk).2.1 i h1, ?_⟩
   unfold dget
   split
   ·rename_i b hb
    exact (hm'.sc i b hb).2
   ·trivial
  ·refine hj.congr (fun i => ?_) fun F hF => ?_
   ·rw [zpg (p := L) (k := k) hLk hL1 hL2 hk fun j h1 h2 h3 => ?_]
    ·simp only [zal]
     rw [zsu (A := A y') (B := A y) fun j hj hp => (hAL j hj hp).symm]
    ·cases hg : get i (A y' j).m with
     | none => exact .inl rfl
     | some b =>
      refine .inr ?_
      cases hg2 : get i (A y' k).m with
      | none => rfl
      | some b2 =>
       exfalso
       rw [<- hAL j h2 h3] at hg
       have g1 := hI.keys j h2 h3 i b hg
       rcases ((p.ok_at hpn hk).2.2 j h2 (by omega) (hcl j h2 h3) i g1).2 with h7 | h7
       ·have := hlt k j h7
        omega
       ·exact h7 (hUget i b2 hg2).1
   ·rcases List.mem_append.1 hF with hF | hF
    ·obtain ⟨j, h1, h2, h3⟩ := zej.1 hF
     by_cases e1 : j = k
     ·subst e1
      exact List.mem_append_left _ h3
     ·rw [hL2 j e1] at h2
      rw [<- hAL j h1 h2] at h3
      exact List.mem_append_right _ (List.mem_append_left _ (zej.2 ⟨j, h1, h2, h3⟩))
    ·exact List.mem_append_right _ (List.mem_append_right _ hF)
  ·rw [zal] at ht
   have hvr : (A y' k).v.real e2 = (A y' k).v.real e' := SV.real_eq hin hv
   rw [za0]
   split at ht
   ·rename_i u' hu'
    cases ht
    obtain ⟨j, h1, h2, h3, h4, rfl⟩ := zb3 hu'
    by_cases e1 : j = k
    ·subst e1
     rw [if_pos (hdst.symm.trans h3), if_pos (by rw [has]; exact h4), hvr]
    ·rw [hL2 j e1] at h2
     rw [if_neg (fun e2 => e1 (Tb.uniq (by omega) (by omega) h3 (hdst.trans e2))), <- hAL j h1 h2, hsv j h1 h2]
     refine hI.slots t _ ?_
     rw [zal]
     cases hg : get t (zep cx.n ops (A y) L p.n) with
     | none => exact absurd h4 (zcs hg j h1 h2 h3)
     | some u =>
      obtain ⟨i, g1, g2, g3, g4, rfl⟩ := zb3 hg
      rw [Tb.uniq (by omega) (by omega) g3 h3]
   ·rename_i hno
    have hold2 : a.tmps[t]? = some (u.real e) := hI.slots t u (by
     rw [zal]
     cases hg : get t (zep cx.n ops (A y) L p.n) with
     | none => exact ht
     | some u2 =>
      obtain ⟨i, g1, g2, g3, g4, rfl⟩ := zb3 hg
      exfalso
      exact zcs hno i g1 (by rw [hL2 i (fun e1 => by rw [e1, hLk] at g2; cases g2)]; exact g2) g3 g4)
    have htn : t < cx.n := by
     by_cases h6 : t < a.tmps.size
     ·rw [<- has]; exact h6
     ·rw [Array.getElem?_eq_none (Nat.le_of_not_lt h6)] at hold2
      cases hold2
    rw [if_neg (fun e1 => zcs hno k hk hL1 (hdst.trans e1) htn), hold2, SV.real_eq hbase (SV.lt_mono h0k (hbs t u ht))]
 rcases hrun with ⟨hgd, sg, hsg, hsk⟩ | ⟨hgd, hpo⟩
 ·have hw : Region.wanted o (yielded ops a.tmps) = true := by
   unfold gdOf at hgd
   split at hgd
   ·rename_i hg
    exact zaz hg _
   ·rename_i g want hg
    split at hgd
    ·cases hgd
    ·rename_i t ht
     split at hgd
     ·rename_i b hb
      have hy := zcg ht hS hb
      cases b <;> simp only [Option.some.injEq] at hgd
      ·cases want
       ·simp [Region.wanted, hg, hy]
       ·cases hgd
      ·subst hgd
       simp [Region.wanted, hg, hy]
     ·cases hgd
     ·cases hgd
  rw [if_pos hw]
  exact zlb (X := fun _ _ => False) hT hS (fun ch e' st' w' hX _ => False.elim hX) (fun e' st' v w' hK he _ hv _ hm' => fin e' st' v w' hK he hv hm') (by rw [hsg]; exact hsk)
 ·have hw : ¬ Region.wanted o (yielded ops a.tmps) = true := by
   unfold gdOf at hgd
   split at hgd
   ·cases hgd
   ·rename_i g want hg
    split at hgd
    ·cases hgd
    ·rename_i t ht
     split at hgd
     ·rename_i b hb
      have hy := zcg ht hS hb
      cases b <;> simp only [Option.some.injEq] at hgd
      ·cases want
       ·cases hgd
       ·simp [Region.wanted, hg, hy]
      ·subst hgd
       simp [Region.wanted, hg, hy]
     ·rename_i vs hb
      have hy : yielded ops a.tmps g = none := by
       unfold yielded
       rw [ht]
       simp only [Option.bind_some]
       rw [(hS.slots _ _ hb).2]
       rfl
      simp [Region.wanted, hg, hy]
     ·cases hgd
  rw [if_neg hw]
  exact fin e st1 (.one (.v undef)) w hpo (Env.eqTo.refl _ _) trivial hS.mem
theorem zye (hT : T.Ok P) (Tb : zfg ops) (hbit : ∀ k j, bef ops k j = zay p.tb k j) (hlt : ∀ k j, zay p.tb k j = true -> j < k) (hn : ops.size = p.n) (hpn : p.okB = true) (h0 : p.at 0 = st.k) (hlow : cx.n0 <= st.k)
  (hbm : ∀ i b, get i st.m = some b -> i < st.k /\ b.lt st.k) (hbs : ∀ t v, get t st.s = some v -> v.lt st.k) (hb0 : cx.n0 = st.b)
  (hsteps : ∀ k, k < p.n -> zzr P T cx.n ops p A st k) (hK : ∀ y, (∀ j, j < p.n -> (A y j).ok) -> K .normal (p.fin cx.n ops st (A y))) : ∀ (fuel : Nat) (listed : Array Bool) (L : Nat -> Bool) (y : Y) (e : Env) (a : Act) (w : World),
  listed.size = ops.size -> listed.toList.count false <= fuel -> (∀ k, k < ops.size -> listed.getD k false = L k) -> (∀ k, k < ops.size -> L k = true -> ∀ j, j < ops.size -> bef ops k j = true -> L j = true) ->
  a.tmps.size = cx.n -> a.defers = cx.d -> RInv cx ops p st A L y e a w -> wpAny P .any ops (Post cx K) fuel listed a w := by
 intro fuel
 have main : ∀ (L : Nat -> Bool) (y : Y) (e : Env) (a : Act) (w : World), (∀ k, k < ops.size -> L k = true) -> a.tmps.size = cx.n -> a.defers = cx.d -> RInv cx ops p st A L y e a w -> Post cx K .normal a w := by
  intro L y e a w hall has had hI
  refine ⟨e, _, hK y fun j hj => hI.ok j hj (hall j (by omega)), hb0, has, had, fun t v ht => ?_, ?_⟩
  ·have ht : get t (zep cx.n ops (A y) (fun _ => true) p.n ++ st.s) = some v := ht
   have key : get t (zep cx.n ops (A y) L p.n ++ st.s) = some v /\ v.lt (p.at p.n) := by
    rw [zal] at ht ⊢
    split at ht
    ·rename_i u hu
     cases ht
     obtain ⟨j, h1, _, h3, h4, rfl⟩ := zb3 hu
     refine ⟨?_, SV.lt_mono (p.mono hpn h1 (Nat.le_refl _)) (hI.lt j h1 (hall j (by omega))).1⟩
     cases hg : get t (zep cx.n ops (A y) L p.n) with
     | none => exact absurd h4 (zcs hg j h1 (hall j (by omega)) h3)
     | some u2 =>
      obtain ⟨i, g1, _, g3, _, rfl⟩ := zb3 hg
      rw [Tb.uniq (by omega) (by omega) g3 h3]
    ·rename_i hno
     refine ⟨?_, SV.lt_mono (by rw [<- h0]; exact p.mono hpn (Nat.zero_le _) (Nat.le_refl _)) (hbs t v ht)⟩
     cases hg : get t (zep cx.n ops (A y) L p.n) with
     | none => exact ht
     | some u2 =>
      obtain ⟨i, g1, _, g3, g4, rfl⟩ := zb3 hg
      exact absurd g4 (zcs hno i g1 rfl g3)
   exact ⟨key.2, hI.slots t v key.1⟩
  ·refine hI.mem.congr (fun i => ?_) fun F hF => ?_
   ·simp only [Pn.fin, zal]
    rw [zf2 (q := L) fun j hj hne => absurd (hall j (by omega)).symm hne]
   ·rcases List.mem_append.1 hF with hF | hF
    ·obtain ⟨j, h1, _, h3⟩ := zej.1 hF
     exact List.mem_append_left _ (zej.2 ⟨j, h1, hall j (by omega), h3⟩)
    ·exact List.mem_append_right _ hF
 induction fuel with
 | zero =>
  intro listed L y e a w hsz hcnt hL hcl has had hI
  have hall : ∀ k, k < ops.size -> listed.getD k false = true := fun k hk => by
   cases hu : listed.getD k false with
   | true => rfl
   | false =>
    exfalso
    have : false ∈ listed.toList := by
     have h2 : listed[k]'(by omega) = false := by simpa [Array.getD_eq_getD_getElem?, hsz, hk] using hu
     rw [<- h2]
     exact Array.getElem_mem_toList (h := by omega)
    have := List.count_pos_iff.2 this
    omega
  refine ⟨?_, main L y e a w (fun k hk => by rw [<- hL k hk]; exact hall k hk) has had hI⟩
  refine List.eq_nil_iff_forall_not_mem.2 (fun i hi => ?_)
  obtain ⟨h1, o, ho, _⟩ := mem_ready.1 hi
  have hlt : i < ops.size := (Array.getElem?_eq_some_iff.1 ho).1
  have h3 : listed.getD i false = false := by simpa [Array.getD_eq_getD_getElem?, hsz, hlt] using h1
  rw [hall i hlt] at h3
  cases h3
 | succ fuel ih =>
  intro listed L y e a w hsz hcnt hL hcl has had hI
  refine ⟨fun hr => main L y e a w (fun k hk => by rw [<- hL k hk]; exact zdz Tb hsz hr k hk) has had hI, fun i hi => ?_⟩
  obtain ⟨h1, o, ho, hall⟩ := mem_ready.1 hi
  have hil : i < ops.size := (Array.getElem?_eq_some_iff.1 ho).1
  have hun : listed.getD i false = false := by simpa [Array.getD_eq_getD_getElem?, hsz, hil] using h1
  have hLi : L i = false := by rw [<- hL i hil]; exact hun
  have hpre : ∀ j, j < ops.size -> bef ops i j = true -> L j = true := by
   intro j hj hbj
   obtain ⟨_, ed, he, hbd, h2⟩ := Tb.close ho hj hbj
   have hon := Nat.lt_trans (Tb.back ho ed he hbd) hil
   have hle := hall ed he hbd
   rw [hL _ hon] at hle
   rcases h2 with rfl | h2
   ·exact hle
   ·exact hcl ed.on hon hle j hj h2
  have hset : ∀ j d, (listed.setIfInBounds i true).getD j d = if j = i then true else listed.getD j d := by
   intro j d
   by_cases h : j = i
   ·subst h
    rw [if_pos rfl]
    simp [Array.getD_eq_getD_getElem?, hsz, hil]
   ·rw [if_neg h, getD_set_ne d (Ne.symm h)]
  have hcnt2 : (listed.setIfInBounds i true).toList.count false <= fuel := by
   have h2 : listed[i]'(by omega) = false := by simpa [Array.getD_eq_getD_getElem?, hsz, hil] using h1
   have h3 : (listed.setIfInBounds i true).toList.count false + 1 = listed.toList.count false := by
    rw [Array.toList_setIfInBounds, List.count_set (by simpa using (by omega : i < listed.size))]
    have : listed.toList[i]'(by simpa using (by omega : i < listed.size)) = false := by simpa using h2
    have hp : 0 < listed.toList.count false := List.count_pos_iff.2 (by rw [<- h2]; exact Array.getElem_mem_toList (h := by omega))
    rw [this]
    simp only [beq_self_eq_true, if_true]
    have h5 : (true == false) = false := rfl
    rw [h5]
    simp only [Bool.false_eq_true, if_false]
    omega
   omega
  have hr := zwe (Q := Post cx K) (next := wpAny P .any ops (Post cx K) fuel (listed.setIfInBounds i true)) hT Tb hbit hlt hn hpn h0 hlow hbm hbs hb0 has had hI ho (by omega) hLi (fun j hj => hpre j (Nat.lt_trans (hlt i j hj) hil) (by rw [hbit]; exact hj)) (fun j hj hLj => by
   rw [<- Bool.not_eq_true, <- hbit]
   intro hb
   have := hcl j (by omega) hLj i hil hb
   rw [hLi] at this
   cases this) (hsteps i (by omega)) (fun y' e' v w' L' hL' hI' => by
   refine ih (listed.setIfInBounds i true) L' y' e' _ w' (by simpa using hsz) hcnt2 (fun k hk => ?_) (fun k hk hLk j hj hbj => ?_) (by rw [zc1]; exact has) (by rw [zbu]; exact had) hI'
   ·rw [hset, hL' k]
    split
    ·rfl
    ·exact hL k hk
   ·rw [hL'] at hLk ⊢
    by_cases hji : j = i
    ·rw [if_pos hji]
    ·rw [if_neg hji]
     by_cases hki : k = i
     ·subst hki
      exact hpre j hj hbj
     ·rw [if_neg hki] at hLk
      exact hcl k hk hLk j hj hbj)
  unfold wpOp
  rw [ho]
  simp only
  split
  ·rename_i hw
   rw [if_pos hw] at hr
   exact .inl hr
  ·rename_i hw
   rw [if_neg hw] at hr
   exact hr
theorem zx0 {N : Nat} (hT : T.Ok P) {id : Nat} {K : Exit -> St -> Prop} {st : St} (h : zabw P T N ops (K .normal) st) : zai P N (.region id ops true) K st := by
 refine ⟨fun cx e a w hN hS => ?_⟩
 subst hN
 obtain ⟨p, Y, y0, A, htb, hn, hlen, htab, htr, hpn, h0, hsteps, hK⟩ := h.ex
 have Tb := zfw htab
 have hbit : ∀ k j, bef ops k j = zay p.tb k j := by
  intro k j
  unfold bef zay
  rw [<- htb]
  congr 1
  simp [Array.getD_eq_getD_getElem?, List.getD]
 have hno : ∀ k, k < ops.size -> (Array.replicate ops.size false).getD k false = false := fun k _ => zbc
 have hm := hS.mem.later ⟨rfl, rfl, rfl, Nat.le_refl _, fun _ _ => rfl⟩ (w' := { w with drawn := w.drawn + 1 })
 have hz : ∀ n, memR (A y0) (fun _ => false) n = [] /\ facR (A y0) (fun _ => false) n = [] /\ zep cx.n ops (A y0) (fun _ => false) n = [] := by
  intro n
  induction n with
  | zero => exact ⟨rfl, rfl, rfl⟩
  | succ n ih => exact ⟨by simp [memR, ih.1], by simp [facR, ih.2.1], by simp [zep, ih.2.2]⟩
 refine wp_region_any hT.mixed (zye (p := p) (A := A) (st := st) hT Tb hbit (fun k j hb => zkl htr hb) hn hpn h0 hS.mem.low hS.mem.sc (fun t v ht => (hS.slots t v ht).1) hS.base (fun k hk => znp hsteps (List.mem_range.2 hk)) hK _ _ (fun _ => false) y0 e a _ (by simp) (by simp) hno (fun k hk hx => (by cases hx)) hS.size hS.defers ?_)
 refine ⟨fun k _ hx => (by cases hx), fun k _ hx => (by cases hx), fun k _ hx => (by cases hx), fun k _ hx => (by cases hx), ?_, fun t v ht => ?_⟩
 ·rw [(hz _).1, (hz _).2.1]
  exact hm.next (by rw [<- h0]; exact p.mono hpn (Nat.zero_le _) (Nat.le_refl _))
 ·rw [(hz _).2.2] at ht
  exact (hS.slots t v ht).2
end
end Go.Proofs.Sym
end
section
set_option linter.unusedVariables false
set_option linter.unusedSimpArgs false
namespace Go.Proofs.YtmkpiekbpakigaaDoor
open Go.RowKit Go.Proofs.Base Go.Proofs.Sym
def vT (n : Int) : Tm := .mk 1 n ⟨#[]⟩ [] []
def sA : ByteArray := ⟨#[97]⟩
def sB : ByteArray := ⟨#[98]⟩
def sC : ByteArray := ⟨#[99]⟩
def sP : ByteArray := ⟨#[112]⟩
def sQ : ByteArray := ⟨#[113]⟩
def n2T (k : Int) (a b : Tm) : Tm := .mk k 0 ⟨#[]⟩ [] [a, b]
def tX : Tm := n2T 5 (vT 1) (vT 0)
def tY : Tm := n2T 5 (cT sA) (cT sB)
def tF : Tm := n2T 6 (cT sA) (vT 1)
def tG : Tm := n2T 6 (cT sA) (vT 3)
def tO : Tm := n2T 7 (cT sA) (n2T 7 (vT 0) (vT 0))
def tR : Tm := n2T 5 (cT sC) (cT sB)
def tU : Tm := .mk 3 0 ⟨#[]⟩ [⟨1, 1, -1, -1, -1⟩] []
def tW : Tm := .mk 3 0 ⟨#[]⟩ [⟨3, -1, -1, -1, -1⟩] []
theorem zaa0 : appT (vT 1) [vT 0] = tX := by kernel_rfl
theorem zaaz : zjo [cT sA, cT sB] tX = some tY := by kernel_rfl
theorem zyf : zj7 [sA, sB] tY = some tX := by kernel_rfl
theorem zyr : ztq 6 (vT 1) [cT sA] = tF := by kernel_rfl
theorem zwb : zi3 2 0 tF = some tG := by kernel_rfl
theorem zabt : zi3 (-2) 0 (vT 1) = none := by kernel_rfl
theorem zvx : ztq 7 (vT 0) [cT sA, vT 0] = tO := by kernel_rfl
theorem zzz : zeg [] [sP, sQ] tO = some ([(sP, cT sA), (sQ, cT sP)], cT sQ) := by kernel_rfl
theorem zy7 : zdt [] [sP, sQ] = true := by kernel_rfl
theorem zw0 : (zbz 7 tO).1 = 2 := by kernel_rfl
theorem zmk : zbe tO = true := by kernel_rfl
theorem ztd : zbe (cT sQ) = true := by kernel_rfl
theorem zv3 : zft 7 (sP, cT sA) (zft 7 (sQ, cT sP) (some (cT sQ))) = some tO := by kernel_rfl
theorem zaai : zjx sA sC tY = some tR := by kernel_rfl
theorem zz9 : zid [⟨2, -1, -1, -1, -1⟩] tU = some tW := by kernel_rfl
theorem zzv : appT (cT sA) [cT sB] = tY := by kernel_rfl
theorem zyc : appT (cT sC) [cT sB] = tR := by kernel_rfl
end Go.Proofs.YtmkpiekbpakigaaDoor
end
section
set_option linter.unusedVariables false
set_option linter.unusedSimpArgs false
namespace Go.Proofs.YtmkpiekbpakigaaDoor
open Go.RowKit Go.Proofs.Base Go.Proofs.Sym
mutual
theorem zqm : ∀ (a b : TT), a.tm = b.tm -> zj2 a b = true
 | .mk k n s la lc ls aa ac us, .mk k' n' s' la' lc' ls' aa' ac' us', h => by
  simp only [TT.tm, Tm.mk.injEq] at h
  obtain ⟨rfl, rfl, rfl, rfl, h⟩ := h
  rw [zj2, zmp us us' h]
  simp
theorem zmp : ∀ (us bs : List TT), us.map TT.tm = bs.map TT.tm -> zde us bs = true
 | [], [], _ => by unfold zde; rfl
 | [], _ :: _, h => by simp at h
 | _ :: _, [], h => by simp at h
 | a :: r, b :: r', h => by
  simp only [List.map_cons, List.cons.injEq] at h
  unfold zde
  rw [zqm a b h.1, zmp r r' h.2]
  rfl
end
end Go.Proofs.YtmkpiekbpakigaaDoor
end
section
set_option linter.unusedVariables false
set_option linter.unusedSimpArgs false
namespace Go.Proofs.YtmkpiekbpakigaaDoor
open Go.RowKit Go.Proofs.Base Go.Proofs.Sym
theorem zhj (a b : TT) (h : a.tm = b.tm) : PCall Tryd.prog 33 [a.val, b.val] (zc0 a b) (fun r => r = .bool true) (fun _ _ => True) := by
 have h2 := zud a b
 rw [zqm a b h] at h2
 exact h2
end Go.Proofs.YtmkpiekbpakigaaDoor
end
section
set_option linter.unusedVariables false
set_option linter.unusedSimpArgs false
namespace Go.Proofs.YtmkpiekbpakigaaDoor
open Go.RowKit Go.Proofs.Base Go.Proofs.Sym
def vN (n : Int) : TT := zba 1 n ⟨#[]⟩
def cN (s : ByteArray) : TT := zba 4 0 s
theorem zh3 (n : Int) : (vN n).tm = vT n := by
 unfold vN zba
 rw [zbs]
 rfl
theorem zhq (s : ByteArray) : (cN s).tm = cT s := by
 unfold cN zba
 rw [zbs]
 rfl
theorem zaa6 (w : World) {n : Int} (h : I64 n) : TTIn w (vN n) := zeo w (I64.small _ (by decide) (by decide)) h (by decide)
theorem zabc (w : World) {s : ByteArray} (h : s.size <= maxLen) : TTIn w (cN s) := zeo w (I64.small _ (by decide) (by decide)) (I64.small _ (by decide) (by decide)) h
theorem zjh (n : Int) : zav Tryd.prog 72 [.one (.v (.int .i64 n))] [] 0 (fun _ => True) (fun _ : Unit => True) (fun _ => { v := ttA (vN n), m := [], k := 0 }) := by
 refine zas zac 5 [.cell 2 41] Tryd.func72 rfl rfl (by kernel_rfl) rfl _ (leB rfl) Up.true ?_
 refine zaf zac [] _ _ _ ?_
 refine ⟨_, rfl, (), trivial, rfl, ?_⟩
 exact zaa [] rfl rfl rfl rfl (leB rfl) (rs rfl rfl) trivial ⟨⟨Up.true, fun w h => trivial⟩, trivial⟩
theorem zlf (s : ByteArray) : zav Tryd.prog 73 [.one (.v (.string s))] [] 0 (fun _ => True) (fun _ : Unit => True) (fun _ => { v := ttA (cN s), m := [], k := 0 }) := by
 refine zas zac 5 [.cell 2 41] Tryd.func73 rfl rfl (by kernel_rfl) rfl _ (leB rfl) Up.true ?_
 refine zaf zac [] _ _ _ ?_
 refine ⟨_, rfl, (), trivial, rfl, ?_⟩
 exact zaa [] rfl rfl rfl rfl (leB rfl) (rs rfl rfl) trivial ⟨⟨Up.true, fun w h => trivial⟩, trivial⟩
theorem zav.toPC {P : Program} {f : FuncId} {args : List SV} {vals : List Value} {pre : World -> Prop} {X : Type} {ok : X -> Prop} {ret : X -> LRes} {R : Value -> Prop} {post : Value -> World -> Prop} (h : zav P f args [] 0 pre ok ret) (hb : zga P f) (ha : ∀ e, args.map (SV.real e) = vals) (hlt : ∀ x ∈ args, x.lt 0) (hch : ∀ x, ok x -> (ret x).ch = none)
  (hup : ∀ r, Up (post r)) (hR : ∀ x e, ok x -> R ((ret x).v.real e)) (hpo : ∀ x e w, ok x -> (ret x).F w -> post ((ret x).v.real e) w) : PCall P f vals pre R post :=
 ⟨hb, hup, fun w H hH hp => ((zav.pc h ha hlt hch w H hH hp).2).mono fun en w' ⟨x, e', hx, h1, h2, h3⟩ => ⟨_, h1, hR x e' hx, hpo x e' _ hx h2, h3⟩⟩
theorem zxn (n : Int) : PCall Tryd.prog 72 [.int .i64 n] (fun _ => True) (fun r => r = (vN n).val) (fun _ _ => True) :=
 zav.toPC (zjh n) ⟨_, Tryd.func72, by kernel_rfl, rfl⟩ (fun _ => rfl) (fun x hx => by rw [List.mem_singleton.1 hx]; trivial) (fun _ _ => rfl) (fun _ => Up.true) (fun _ _ _ => rfl) (fun _ _ _ _ _ => trivial)
theorem zp2 (s : ByteArray) : PCall Tryd.prog 73 [.string s] (fun _ => True) (fun r => r = (cN s).val) (fun _ _ => True) :=
 zav.toPC (zlf s) ⟨_, Tryd.func73, by kernel_rfl, rfl⟩ (fun _ => rfl) (fun x hx => by rw [List.mem_singleton.1 hx]; trivial) (fun _ _ => rfl) (fun _ => Up.true) (fun _ _ _ => rfl) (fun _ _ _ _ _ => trivial)
def isT (R : Tm) (r : Value) (w : World) : Prop := ∃ x : TT, x.tm = R /\ r = x.val /\ TTIn w x
theorem isT.up (R : Tm) (r : Value) : Up (isT R r) := by
 rintro w w' h ⟨x, h1, h2, h3⟩
 exact ⟨x, h1, h2, TTIn.up h x h3⟩
theorem zzx (x : TT) (e : Env) : (ttA x).real e = x.val := by
 show Value.agg (reals e (x.cells.map SA.v)).toArray = _
 rw [zbd]
 rfl
theorem zy2 {f : FuncId} {args : List SV} {vals : List Value} {pre : World -> Prop} {R : Tm} (h : zav Tryd.prog f args [] 0 pre (fun x : TT => x.tm = R) zk9) (hb : zga Tryd.prog f) (ha : ∀ e, args.map (SV.real e) = vals) (hlt : ∀ x ∈ args, x.lt 0) : PCall Tryd.prog f vals pre (fun _ => True) (isT R) :=
 zav.toPC h hb ha hlt (fun _ _ => rfl) (isT.up R) (fun _ _ _ => trivial) (fun x e w hx hF => ⟨x, hx, zzx x e, hF⟩)
theorem sm {t : Tm} (h : Nat.ble (za8 t) 3000 = true) : tmB t := zc2 t (Nat.le_of_ble_eq_true h)
theorem zabg : tmB tX := sm (by kernel_rfl)
theorem zaa7 : tmB tY := sm (by kernel_rfl)
theorem zabx : tmB tF := sm (by kernel_rfl)
theorem zabk : tmB tU := sm (by kernel_rfl)
theorem zrx (n : Int) : tmB (vT n) := by
 unfold vT tmB
 refine ⟨by simp, by simp, ?_⟩
 show tmBs []
 unfold tmBs
 trivial
theorem zwh (s : ByteArray) : tmB (cT s) := by
 unfold cT tmB
 refine ⟨by simp, by simp, ?_⟩
 show tmBs []
 unfold tmBs
 trivial
theorem zaad (l : List Int) : ∀ u ∈ l.map vN, tmB u.tm := by
 intro u hu
 obtain ⟨n, _, rfl⟩ := List.mem_map.1 hu
 rw [zh3]
 exact zrx n
theorem zqu (l : List ByteArray) : ∀ u ∈ l.map cN, tmB u.tm := by
 intro u hu
 obtain ⟨n, _, rfl⟩ := List.mem_map.1 hu
 rw [zhq]
 exact zwh n
theorem zxp {w : World} {g : Nat} {t : TT} (h : SlAt w (some ⟨g, 0, none⟩) t.cells) (ht : TTIn w t) : TsIn w (some ⟨g, 0, none⟩) 1 [t] := by
 refine ⟨zez [t] 0 (fun i u hi => ?_) (fun z hz => by rw [List.mem_singleton.1 hz]; exact ht), fun h => (by cases h), Nat.le_refl _, by decide⟩
 rw [Nat.zero_mul, Nat.zero_add]
 refine h i u ?_
 simpa [ttsC] using hi
theorem zxz {w : World} {g : Nat} {t u : TT} (h : SlAt w (some ⟨g, 0, none⟩) (t.cells ++ u.cells)) (ht : TTIn w t) (hu : TTIn w u) : TsIn w (some ⟨g, 0, none⟩) 2 [t, u] := by
 refine ⟨zez [t, u] 0 (fun i u hi => ?_) (fun z hz => ?_), fun h => (by cases h), Nat.le_refl _, by decide⟩
 ·rw [Nat.zero_mul, Nat.zero_add]
  refine h i u ?_
  simpa [ttsC] using hi
 ·simp only [List.mem_cons, List.not_mem_nil, or_false] at hz
  rcases hz with rfl | rfl
  ·exact ht
  ·exact hu
theorem zu9 {w : World} {A : Option Addr} {t : TT} (h : zhu A t.cells w) (ht : TTIn w t) : TsIn w A 1 [t] := by
 obtain ⟨a, rfl, hc⟩ := h
 refine ⟨zez [t] 0 (fun i u hi => ?_) (fun z hz => by rw [List.mem_singleton.1 hz]; exact ht), fun h => (by cases h), Nat.le_refl _, by decide⟩
 rw [Nat.zero_mul, Nat.zero_add]
 refine ⟨a, rfl, hc i u ?_⟩
 simpa [ttsC] using hi
theorem zyb {w : World} {A : Option Addr} {t u : TT} (h : zhu A (t.cells ++ u.cells) w) (ht : TTIn w t) (hu : TTIn w u) : TsIn w A 2 [t, u] := by
 obtain ⟨a, rfl, hc⟩ := h
 refine ⟨zez [t, u] 0 (fun i u hi => ?_) (fun z hz => ?_), fun h => (by cases h), Nat.le_refl _, by decide⟩
 ·rw [Nat.zero_mul, Nat.zero_add]
  refine ⟨a, rfl, hc i u ?_⟩
  simpa [ttsC] using hi
 ·simp only [List.mem_cons, List.not_mem_nil, or_false] at hz
  rcases hz with rfl | rfl
  ·exact ht
  ·exact hu
def amG (ys : List TT) (w : World) : Prop := ML w /\ ∀ y ∈ ys, TTIn w y
theorem amG.up (ys : List TT) : Up (amG ys) := ML.up.and fun w w' h hh y hy => TTIn.up h y (hh y hy)
theorem amG.cons {ys : List TT} {y : TT} {w : World} (h : amG ys w) (hy : TTIn w y) : amG (y :: ys) w := ⟨h.1, fun z hz => by
 rcases List.mem_cons.1 hz with rfl | hz
 ·exact hy
 ·exact h.2 z hz⟩
theorem amG.get {ys : List TT} {w : World} (h : amG ys w) (i : Nat) {y : TT} (hi : ys[i]? = some y) : TTIn w y := h.2 y (List.mem_of_getElem? hi)
-- the calls
theorem zzl (A : Option Addr) : zav Tryd.prog 71 [ttA (vN 1), .one (.v (.slice A 1 1))] [] 0 (aG A 1 [vN 0] (vN 1)) (fun x : TT => x.tm = tX) zk9 := by
 have h := zsv (vN 1) A 1 [vN 0] (by rw [zh3]; exact zrx 1) (zaad [0])
 rw [zh3, show [vN 0].map TT.tm = [vT 0] by rw [List.map_cons, zh3]; rfl, zaa0] at h
 exact h
theorem zzc (A : Option Addr) : zav Tryd.prog 71 [ttA (cN sA), .one (.v (.slice A 1 1))] [] 0 (aG A 1 [cN sB] (cN sA)) (fun x : TT => x.tm = tY) zk9 := by
 have h := zsv (cN sA) A 1 [cN sB] (by rw [zhq]; exact zwh _) (zqu [sB])
 rw [zhq, show [cN sB].map TT.tm = [cT sB] by rw [List.map_cons, zhq]; rfl, zzv] at h
 exact h
theorem zy9 (A : Option Addr) : zav Tryd.prog 71 [ttA (cN sC), .one (.v (.slice A 1 1))] [] 0 (aG A 1 [cN sB] (cN sC)) (fun x : TT => x.tm = tR) zk9 := by
 have h := zsv (cN sC) A 1 [cN sB] (by rw [zhq]; exact zwh _) (zqu [sB])
 rw [zhq, show [cN sB].map TT.tm = [cT sB] by rw [List.map_cons, zhq]; rfl, zyc] at h
 exact h
def zj8 (x : TT) : LRes := { v := .tup [.agg (x.cells.map SA.v), .one (.v (.bool true))], m := [], k := 0, F := fun w => TTIn w x }
theorem zaa4 (t : TT) (ht : t.tm = tX) (A : Option Addr) : zav Tryd.prog 40 [ttA t, .one (.v (.slice A 2 2))] [] 0 (fun w => tsP A 2 [cN sA, cN sB] w /\ TTIn w t) (fun x : TT => x.tm = tY) zj8 := by
 have h := zus t A 2 [cN sA, cN sB] (by rw [ht]; exact zabg) (zqu [sA, sB])
 rw [ht, show [cN sA, cN sB].map TT.tm = [cT sA, cT sB] by rw [List.map_cons, List.map_cons, zhq, zhq]; rfl, zaaz] at h
 exact h
theorem zzj (t : TT) (ht : t.tm = tY) (A : Option Addr) : zav Tryd.prog 74 [ttA t, .one (.v (.slice A 2 2))] [] 0 (fun w => (ML w /\ SsIn w A 2 [sA, sB]) /\ TTIn w t) (fun x : TT => x.tm = tX) zj8 := by
 have h := zsz t A 2 [sA, sB] (by rw [ht]; exact zaa7)
 rw [ht, zyf] at h
 exact h
theorem zwq (A : Option Addr) : zav Tryd.prog 75 [.one (.v (.int .i64 6)), ttA (vN 1), .one (.v (.slice A 1 1))] [] 0 (aG A 1 [cN sA] (vN 1)) (fun x : TT => x.tm = tF) zk9 := by
 have h := zr8 6 (vN 1) A 1 [cN sA] (I64.small _ (by decide) (by decide)) (by rw [zh3]; exact zrx 1) (zqu [sA]) (by decide)
 rw [zh3, show [cN sA].map TT.tm = [cT sA] by rw [List.map_cons, zhq]; rfl, zyr] at h
 exact h
theorem zqj (A : Option Addr) : zav Tryd.prog 75 [.one (.v (.int .i64 7)), ttA (vN 0), .one (.v (.slice A 2 2))] [] 0 (aG A 2 [cN sA, vN 0] (vN 0)) (fun x : TT => x.tm = tO) zk9 := by
 have h := zr8 7 (vN 0) A 2 [cN sA, vN 0] (I64.small _ (by decide) (by decide)) (by rw [zh3]; exact zrx 0) (fun u hu => ?_) (by decide)
 ·rw [zh3, show [cN sA, vN 0].map TT.tm = [cT sA, vT 0] by rw [List.map_cons, List.map_cons, zhq, zh3]; rfl, zvx] at h
  exact h
 ·simp only [List.mem_cons, List.not_mem_nil, or_false] at hu
  rcases hu with rfl | rfl
  ·rw [zhq]; exact zwh _
  ·rw [zh3]; exact zrx _
theorem zv8 (t : TT) (ht : t.tm = tF) : zav Tryd.prog 39 [ttA t, .one (.v (.int .i64 2)), .one (.v (.int .i64 0))] [] 0 (fun w => ML w /\ TTIn w t) (fun x : TT => x.tm = tG) zj8 := by
 have h := zqs t 2 0 (by rw [ht]; exact zabx)
 rw [ht, zwb] at h
 exact h
def zabo (x : TT) : LRes := { v := .tup [.agg zap, .one (.v (.bool false))], m := [], k := 0 }
theorem zt9 : zav Tryd.prog 39 [ttA (vN 1), .one (.v (.int .i64 (-2))), .one (.v (.int .i64 0))] [] 0 (fun w => ML w /\ TTIn w (vN 1)) (fun _ : TT => True) zabo := by
 have h := zqs (vN 1) (-2) 0 (by rw [zh3]; exact zrx 1)
 rw [zh3, zabt] at h
 exact h
theorem zz0 (t : TT) (ht : t.tm = tO) (A : Option Addr) : zav Tryd.prog 76 [ttA t, .one (.v (.int .i64 7)), .one (.v (.slice A 2 2))] [] 0 (fun w => (ML w /\ SsIn w A 2 [sP, sQ]) /\ TTIn w t) (fun q : (Option Addr × Nat) × List (ByteArray × TT) × TT => q.2.1.map locM = [(sP, cT sA), (sQ, cT sP)] /\ q.2.2.tm = cT sQ) zuy :=
 zyo t 7 A 2 [sP, sQ] (by rw [ht]; exact Nat.le_of_ble_eq_true (by kernel_rfl)) (by rw [ht]; exact zmk) rfl (by rw [ht, zw0]; decide) zy7 (by decide) (by intro x hx; simp only [List.mem_cons, List.not_mem_nil, or_false] at hx; rcases hx with rfl | rfl <;> decide) _ _ (by rw [ht]; exact zzz)
theorem zaan (t : TT) (ht : t.tm = tY) : zav Tryd.prog 41 [ttA t, .one (.v (.string sA)), .one (.v (.string sC))] [] 0 (fun w => ML w /\ TTIn w t) (fun x : TT => x.tm = tR) zj8 := by
 have h := zix t sA sC (by rw [ht]; exact zaa7) (by decide)
 rw [ht, zaai] at h
 exact h
theorem zv1 (t : TT) (ht : t.tm = cT sQ) (A : Option Addr) (c : Nat) (u0 u1 : TT) (h0 : u0.tm = cT sA) (h1 : u1.tm = cT sP) : zav Tryd.prog 77 [ttA t, .one (.v (.int .i64 7)), .one (.v (.slice A 2 c))] [] 0 (clG A [(sP, u0), (sQ, u1)] t) (fun x : TT => x.tm = tO) zj8 :=
 zxd t 7 A c [(sP, u0), (sQ, u1)] rfl (I64.small _ (by decide) (by decide)) (by rw [ht]; exact Nat.le_of_ble_eq_true (by kernel_rfl)) (by rw [ht]; exact ztd) (leB rfl) tO (by
  refine Eq.trans ?_ zv3
  show zft 7 (sP, u0.tm) (zft 7 (sQ, u1.tm) (some t.tm)) = _
  rw [h0, h1, ht]) zmk
def uL (A : Option Addr) : TT := .mk 3 0 ⟨#[]⟩ A 1 [⟨1, 1, -1, -1, -1⟩] none 0 []
theorem zaa2 (A : Option Addr) : (uL A).tm = tU := by
 unfold uL
 rw [zbs]
 rfl
theorem zaao (A B : Option Addr) : zav Tryd.prog 45 [ttA (uL A), .one (.v (.slice B 1 1))] [] 0 (fun w => (ML w /\ zcz w B [⟨2, -1, -1, -1, -1⟩]) /\ TTIn w (uL A)) (fun x : TT => x.tm = tW) zj8 := by
 have h := zu4 (uL A) B 1 [⟨2, -1, -1, -1, -1⟩] (by rw [zaa2]; exact zabk)
 rw [zaa2, zz9] at h
 exact h
theorem zxm {w : World} {g : Nat} {l : Lv} (h : SlAt w (some ⟨g, 0, none⟩) [.int .i64 l.b, .int .i64 l.p0, .int .i64 l.p1, .int .i64 l.p2, .int .i64 l.p3]) : zcz w (some ⟨g, 0, none⟩) [l] := by
 have hc : ∀ j u, ([.int .i64 l.b, .int .i64 l.p0, .int .i64 l.p1, .int .i64 l.p2, .int .i64 l.p3] : List Value)[j]? = some u -> w.cell? ⟨g, j, none⟩ = some u := fun j u hj => by
  obtain ⟨a, ha, hc⟩ := h j u hj
  cases ha
  have e1 : (⟨g, 0, none⟩ : Addr).add j = ⟨g, j, none⟩ := by
   by_cases h0 : j = 0
   ·subst h0; simp [Addr.add]
   ·simp [Addr.add, h0]
  rw [<- e1]
  exact hc
 refine ⟨by simp, fun _ => ⟨g, 0, rfl, fun j l' hl => ?_⟩⟩
 cases j with
 | zero =>
  cases hl
  exact ⟨hc 0 _ rfl, hc 1 _ rfl, hc 2 _ rfl, hc 3 _ rfl, hc 4 _ rfl⟩
 | succ j => simp at hl
theorem zabl {w : World} {g : Nat} (h : SlAt w (some ⟨g, 0, none⟩) [.int .i64 1, .int .i64 1, .int .i64 (-1), .int .i64 (-1), .int .i64 (-1)]) : TTIn w (uL (some ⟨g, 0, none⟩)) := by
 unfold uL TTIn
 refine ⟨⟨I64.small _ (by decide) (by decide), I64.small _ (by decide) (by decide), by decide, zxm (l := ⟨1, 1, -1, -1, -1⟩) h, fun h => (by cases h), by simp, by decide, fun _ => ⟨rfl, rfl⟩, Nat.le_refl _, Nat.zero_le _⟩, ?_⟩
 unfold TTs
 trivial
theorem zjg (a : TT) (v : Value) : PCall Tryd.prog 33 [a.val, v] (fun w => isT a.tm v w /\ TTIn w a) (fun r => r = .bool true) (fun _ _ => True) := by
 refine ⟨(zud a a).ent, fun _ => Up.true, ?_⟩
 rintro w H hH ⟨⟨x, hx, rfl, hxi⟩, ha⟩
 exact (zhj a x hx.symm).run w H hH ⟨ha, hxi⟩
end Go.Proofs.YtmkpiekbpakigaaDoor
end
section
set_option linter.unusedVariables false
set_option linter.unusedSimpArgs false
namespace Go.Proofs.YtmkpiekbpakigaaDoor
open Go.RowKit Go.Proofs.Base Go.Proofs.Sym
theorem zaal (dn : List (ByteArray × TT)) (h : dn.map locM = [(sP, cT sA), (sQ, cT sP)]) : ∃ u0 u1, dn = [(sP, u0), (sQ, u1)] /\ u0.tm = cT sA /\ u1.tm = cT sP := by
 match dn, h with
 | [], h => exact (by simp at h)
 | [_], h => exact (by simp at h)
 | [(a, x), (b, y)], h =>
  simp only [List.map_cons, List.map_nil, locM, List.cons.injEq, Prod.mk.injEq, and_true] at h
  obtain ⟨⟨rfl, h1⟩, rfl, h2⟩ := h
  exact ⟨x, y, rfl, h1, h2⟩
 | _ :: _ :: _ :: _, h => exact (by simp at h)
theorem am_G (x : TT) (h : x.tm = tG) : ∃ a b : TT, TT.args x = [a, b] /\ (match b with | .mk _ n _ _ _ _ _ _ _ => n) = 3 := by
 obtain ⟨k, n, s, la, lc, ls, aa, ac, us⟩ := x
 rw [zbs] at h
 have h : Tm.mk k n s ls (us.map TT.tm) = .mk 6 0 ⟨#[]⟩ [] [cT sA, vT 3] := h
 injection h with _ _ _ _ h
 match us, h with
 | [], h => exact (by simp at h)
 | [_], h => exact (by simp at h)
 | [a, b], h =>
  refine ⟨a, b, rfl, ?_⟩
  obtain ⟨bk, bn, bs, bla, blc, bls, baa, bac, bus⟩ := b
  simp only [List.map_cons, List.map_nil, List.cons.injEq, and_true] at h
  have h2 := h.2
  rw [zbs] at h2
  injection h2
 | _ :: _ :: _ :: _, h => exact (by simp at h)
theorem am_W (x : TT) (h : x.tm = tW) : ∃ l : Lv, (match x with | .mk _ _ _ _ _ ls _ _ _ => ls) = [l] /\ l.b = 3 := by
 obtain ⟨k, n, s, la, lc, ls, aa, ac, us⟩ := x
 rw [zbs] at h
 have h : Tm.mk k n s ls (us.map TT.tm) = .mk 3 0 ⟨#[]⟩ [⟨3, -1, -1, -1, -1⟩] [] := h
 injection h with _ _ _ h _
 exact ⟨_, h, rfl⟩
theorem zx9 (x : TT) (h : x.tm = cT sP) : (match x with | .mk _ _ s _ _ _ _ _ _ => s) = sP := by
 obtain ⟨k, n, s, la, lc, ls, aa, ac, us⟩ := x
 rw [zbs] at h
 have h : Tm.mk k n s ls (us.map TT.tm) = .mk 4 0 sP [] [] := h
 injection h
theorem zpr {w : World} {k n : Int} {s : ByteArray} {la : Option Addr} {lc : Nat} {ls : List Lv} {aa : Option Addr} {ac : Nat} {us : List TT} (h : TTIn w (.mk k n s la lc ls aa ac us)) : TsIn w aa ac us := by
 unfold TTIn at h
 exact ⟨h.2, h.1.haa, h.1.hac, h.1.ham⟩
theorem zup {w : World} {k n : Int} {s : ByteArray} {la : Option Addr} {lc : Nat} {ls : List Lv} {aa : Option Addr} {ac : Nat} {us : List TT} (h : TTIn w (.mk k n s la lc ls aa ac us)) : zcz w la ls := by
 unfold TTIn at h
 exact h.1.hls
theorem vN0 (w : World) : TTIn w (vN 0) := zaa6 w (I64.small _ (by decide) (by decide))
theorem vN1 (w : World) : TTIn w (vN 1) := zaa6 w (I64.small _ (by decide) (by decide))
theorem cNa (w : World) {s : ByteArray} (h : s.size <= maxLen := by decide) : TTIn w (cN s) := zabc w h
theorem ztl {a : TT} {T : Tm} {v : Value} {w : World} (h : a.tm = T) (hv : isT T v w) : isT a.tm v w := by
 rw [h]
 exact hv
theorem zs8 (t : TT) : (ttA t).lt 0 := fun (x : SA) hx => by
 obtain ⟨v, hv, rfl⟩ := List.mem_map.1 hx
 obtain ⟨k, n, s, la, lc, ls, aa, ac, us⟩ := t
 simp only [TT.cells, List.mem_cons, List.not_mem_nil, or_false] at hv
 rcases hv with rfl | rfl | rfl | rfl | rfl <;> rfl
theorem zwm (A : Option Addr) : PCall Tryd.prog 71 [(cN sA).val, .slice A 1 1] (aG A 1 [cN sB] (cN sA)) (fun _ => True) (isT tY) :=
 zy2 (zzc A) ⟨_, Tryd.func71, by kernel_rfl, rfl⟩ (fun _ => rfl) (fun x hx => by
  simp only [List.mem_cons, List.not_mem_nil, or_false] at hx
  rcases hx with rfl | rfl
  ·exact zs8 _
  ·trivial)
theorem zvy (A : Option Addr) : PCall Tryd.prog 71 [(cN sC).val, .slice A 1 1] (aG A 1 [cN sB] (cN sC)) (fun _ => True) (isT tR) :=
 zy2 (zy9 A) ⟨_, Tryd.func71, by kernel_rfl, rfl⟩ (fun _ => rfl) (fun x hx => by
  simp only [List.mem_cons, List.not_mem_nil, or_false] at hx
  rcases hx with rfl | rfl
  ·exact zs8 _
  ·trivial)
theorem zui (A : Option Addr) : PCall Tryd.prog 75 [.int .i64 7, (vN 0).val, .slice A 2 2] (aG A 2 [cN sA, vN 0] (vN 0)) (fun _ => True) (isT tO) :=
 zy2 (zqj A) ⟨_, Tryd.func75, by kernel_rfl, rfl⟩ (fun _ => rfl) (fun x hx => by
  simp only [List.mem_cons, List.not_mem_nil, or_false] at hx
  rcases hx with rfl | rfl | rfl
  ·trivial
  ·exact zs8 _
  ·trivial)
set_option maxHeartbeats 64000000 in
theorem zs9 : PCall Tryd.prog 35 [] ML (fun r => r = .bool true) (fun _ _ => True) := by
 refine zar zac 175 [.tmp 0] Tryd.func35 rfl rfl (by kernel_rfl) rfl _ (leB rfl) ML.up (fun _ => Up.true) ?_
 refine zaf zac [1] _ _ _ ?_
 refine zai.ent (st' := { s := [], m := [], k := 0, f := [amG []] }) (zaa [] rfl rfl rfl rfl (leB rfl) trivial trivial ⟨⟨amG.up _, fun w h => ⟨h.1, fun y hy => by cases hy⟩⟩, trivial⟩) ?_
 refine zaf zac [2] _ _ _ ?_
 refine zab [] (zjh 1) rfl trivial rfl rfl (fun _ _ => trivial) (fun _ _ => ⟨rfl, rfl⟩) (fun _ _ => ?_)
 refine zab [] (zjh 0) rfl trivial rfl rfl (fun _ _ => trivial) (fun _ _ => ⟨rfl, rfl⟩) (fun _ _ => ?_)
 refine zau 0 (vs := (vN 0).cells) rfl rfl (fun g => ?_)
 refine zab [] (zzl (some ⟨g, 0, none⟩)) rfl trivial rfl rfl (fun w h => ⟨zxp h.1 (vN0 w), vN1 w⟩) (fun x _ => ?_) (fun x hx => ?_)
 ·obtain ⟨xvk, xvn, xvs, xvla, xvlc, xvls, xvaa, xvac, xvus⟩ := x
  exact ⟨rfl, rfl⟩
 have ha : x.tm = tX := hx
 obtain ⟨xak, xan, xas, xala, xalc, xals, xaaa, xaac, xaus⟩ := x
 let Ta : TT := (TT.mk xak xan xas xala xalc xals xaaa xaac xaus)
 refine zai.ent (st' := { s := [(1, .one (.p 0 0))], m := [(0, .cells 41 (Ta.cells.map SA.v))], k := 1, f := [amG [Ta]] }) (zaa [(0, .blk 1)] rfl rfl rfl rfl (leB rfl) (rs rfl rfl) (rm rfl rfl) ⟨⟨amG.up _, fun w h => h.2.2.2.2.1.cons h.1⟩, trivial⟩) ?_
 refine zaf zac [3] _ _ _ ?_
 refine zab [] (zlf sA) rfl trivial rfl rfl (fun _ _ => trivial) (fun _ _ => ⟨rfl, rfl⟩) (fun _ _ => ?_)
 refine zai.ent (st' := { s := [(1, .one (.p 0 0)), (2, .one (.p 1 0))], m := [(0, .cells 41 (Ta.cells.map SA.v)), (1, .cells 41 ((cN sA).cells.map SA.v))], k := 2, f := [amG [Ta]] }) (zaa [(0, .blk 0), (1, .blk 1)] rfl rfl rfl rfl (leB rfl) (rs rfl rfl) (rm rfl rfl) ⟨⟨amG.up _, fun w h => h.2.1⟩, trivial⟩) ?_
 refine zaf zac [4] _ _ _ ?_
 refine zab [] (zlf sB) rfl trivial rfl rfl (fun _ _ => trivial) (fun _ _ => ⟨rfl, rfl⟩) (fun _ _ => ?_)
 refine zai.ent (st' := { s := [(1, .one (.p 0 0)), (2, .one (.p 1 0)), (3, .one (.p 2 0))], m := [(0, .cells 41 (Ta.cells.map SA.v)), (1, .cells 41 ((cN sA).cells.map SA.v)), (2, .cells 41 ((cN sB).cells.map SA.v))], k := 3, f := [amG [Ta]] }) (zaa [(0, .blk 0), (1, .blk 1), (2, .blk 2)] rfl rfl rfl rfl (leB rfl) (rs rfl rfl) (rm rfl rfl) ⟨⟨amG.up _, fun w h => h.2.1⟩, trivial⟩) ?_
 refine zaf zac [5] _ _ _ ?_
 refine zau 3 (vs := (cN sA).cells ++ (cN sB).cells) rfl rfl (fun g => ?_)
 refine zab [] (zaa4 Ta ha (some ⟨g, 0, none⟩)) rfl trivial rfl rfl (fun w h => ⟨⟨h.2.1.1, zxz h.1 (cNa w) (cNa w)⟩, h.2.1.get 0 rfl⟩) (fun x _ => ?_) (fun x hx => ?_)
 ·obtain ⟨xvk, xvn, xvs, xvla, xvlc, xvls, xvaa, xvac, xvus⟩ := x
  exact ⟨rfl, rfl⟩
 have hb : x.tm = tY := hx
 obtain ⟨xbk, xbn, xbs, xbla, xblc, xbls, xbaa, xbac, xbus⟩ := x
 let Tb : TT := (TT.mk xbk xbn xbs xbla xblc xbls xbaa xbac xbus)
 refine zai.ent (st' := { s := [(1, .one (.p 0 0)), (2, .one (.p 1 0)), (3, .one (.p 2 0)), (4, .one (.p 3 0)), (5, .one (.v (.bool true)))], m := [(0, .cells 41 (Ta.cells.map SA.v)), (1, .cells 41 ((cN sA).cells.map SA.v)), (2, .cells 41 ((cN sB).cells.map SA.v)), (3, .cells 41 (Tb.cells.map SA.v))], k := 4, f := [amG [Tb, Ta]] }) (zaa [(0, .blk 0), (1, .blk 1), (2, .blk 2), (3, .blk 4)] rfl rfl rfl rfl (leB rfl) (rs rfl rfl) (rm rfl rfl) ⟨⟨amG.up _, fun w h => h.2.2.1.cons h.1⟩, trivial⟩) ?_
 refine zaf zac [6] _ _ _ ?_
 refine zau 4 (vs := [.string sA, .string sB]) rfl rfl (fun g => ?_)
 refine zab [] (zzj Tb hb (some ⟨g, 0, none⟩)) rfl trivial rfl rfl (fun w h => ⟨⟨h.2.1.1, ⟨h.1, fun h => (by cases h), Nat.le_refl _, by decide⟩⟩, h.2.1.get 0 rfl⟩) (fun x _ => ?_) (fun x hx => ?_)
 ·obtain ⟨xvk, xvn, xvs, xvla, xvlc, xvls, xvaa, xvac, xvus⟩ := x
  exact ⟨rfl, rfl⟩
 have hc : x.tm = tX := hx
 obtain ⟨xck, xcn, xcs, xcla, xclc, xcls, xcaa, xcac, xcus⟩ := x
 let Tc : TT := (TT.mk xck xcn xcs xcla xclc xcls xcaa xcac xcus)
 refine zai.ent (st' := { s := [(1, .one (.p 0 0)), (2, .one (.p 1 0)), (3, .one (.p 2 0)), (4, .one (.p 3 0)), (6, .one (.p 4 0)), (5, .one (.v (.bool true))), (7, .one (.v (.bool true)))], m := [(0, .cells 41 (Ta.cells.map SA.v)), (1, .cells 41 ((cN sA).cells.map SA.v)), (2, .cells 41 ((cN sB).cells.map SA.v)), (3, .cells 41 (Tb.cells.map SA.v)), (4, .cells 41 (Tc.cells.map SA.v))], k := 5, f := [amG [Tc, Tb, Ta]] }) (zaa [(0, .blk 0), (1, .blk 1), (2, .blk 2), (3, .blk 3), (4, .blk 5)] rfl rfl rfl rfl (leB rfl) (rs rfl rfl) (rm rfl rfl) ⟨⟨amG.up _, fun w h => h.2.2.1.cons h.1⟩, trivial⟩) ?_
 refine zai.cutX (X := TT) (fun x => x.tm = tF) (fun x => { s := [(1, .one (.p 0 0)), (2, .one (.p 1 0)), (3, .one (.p 2 0)), (4, .one (.p 3 0)), (6, .one (.p 4 0)), (8, .one (.p 5 0)), (5, .one (.v (.bool true))), (7, .one (.v (.bool true)))], m := [(0, .cells 41 (Ta.cells.map SA.v)), (1, .cells 41 ((cN sA).cells.map SA.v)), (2, .cells 41 ((cN sB).cells.map SA.v)), (3, .cells 41 (Tb.cells.map SA.v)), (4, .cells 41 (Tc.cells.map SA.v)), (5, .cells 41 (x.cells.map SA.v))], k := 6, f := [amG [x, Tc, Tb, Ta]] }) ?_ (fun x hx => ?_)
 ·skip
  refine zx0 zac ⟨⟨{ n := 6, tb := [0, 0, 2, 7, 0, 31], at' := [5, 5, 5, 6, 6, 7, 7], us := [[], [], [5], [5], [6], [6]] }, TT, zba 0 0 ⟨#[]⟩, fun y k => match k with
   | 0 => { v := ttA (vN 1) }
   | 1 => { v := ttA (cN sA) }
   | 2 => { v := .one (.sl 5 0 1 1), m := [(5, .cells 41 ((cN sA).cells.map SA.v))] }
   | 3 => { v := ttA y, m := [(5, .dead)], f := [fun w => TTIn w y], ok := y.tm = tF }
   | 4 => { v := .one (.p 6 0), m := [(6, .cells 41 zap)] }
   | 5 => { m := [(6, .cells 41 (y.cells.map SA.v))] }
   | _ => {}, by kernel_rfl, rfl, rfl, by kernel_rfl, by kernel_rfl, by kernel_rfl, rfl, ⟨?_, ?_, ?_, ?_, ?_, ?_, trivial⟩, fun y h => ?_⟩⟩
  all_goals first | exact ⟨fun y h => ⟨_, _, rfl, rfl, .inl ⟨rfl, _, rfl, y, rfl, trivial, rfl, rfl, rfl, rfl, rfl, fun _ _ => trivial, trivial⟩⟩⟩ | skip
  ·refine ⟨fun y h => ?_⟩
   refine ⟨_, _, rfl, rfl, .inl ⟨rfl, _, rfl, ?_⟩⟩
   exact zab [] (zjh 1) rfl trivial rfl rfl (fun _ _ => trivial) (fun _ _ => ⟨rfl, rfl⟩) (fun _ _ => ⟨y, rfl, trivial, rfl, rfl, rfl, rfl, rfl, fun _ _ => trivial, trivial⟩)
  ·refine ⟨fun y h => ?_⟩
   refine ⟨_, _, rfl, rfl, .inl ⟨rfl, _, rfl, ?_⟩⟩
   refine zau 5 (vs := (cN sA).cells) rfl rfl (fun g => ?_)
   refine zab [] (zwq (some ⟨g, 0, none⟩)) rfl trivial rfl rfl (fun w h => ⟨zxp h.1 (cNa w), vN1 w⟩) (fun x _ => ?_) (fun x hx => ?_)
   ·obtain ⟨xvk, xvn, xvs, xvla, xvlc, xvls, xvaa, xvac, xvus⟩ := x
    exact ⟨rfl, rfl⟩
   have hd : x.tm = tF := hx
   obtain ⟨xdk, xdn, xds, xdla, xdlc, xdls, xdaa, xdac, xdus⟩ := x
   let Td : TT := (TT.mk xdk xdn xds xdla xdlc xdls xdaa xdac xdus)
   exact ⟨Td, rfl, hd, rfl, rfl, rfl, rfl, rfl, fun w h => ⟨h.1, trivial⟩, TTIn.upS _, trivial⟩
  ·refine ⟨fun y h => ?_⟩
   obtain ⟨yk, yn, ys, yla, ylc, yls, yaa, yac, yus⟩ := y
   refine ⟨_, _, rfl, rfl, .inl ⟨rfl, _, rfl, ?_⟩⟩
   exact ⟨_, rfl, trivial, rfl, rfl, rfl, rfl, rfl, fun _ _ => trivial, trivial⟩
  ·skip
   obtain ⟨yk, yn, ys, yla, ylc, yls, yaa, yac, yus⟩ := y
   exact ⟨_, h 3 (by decide), (zaa [(0, .blk 0), (1, .blk 1), (2, .blk 2), (3, .blk 3), (4, .blk 4), (5, .blk 6)] rfl rfl rfl rfl (leB rfl) (rs rfl rfl) (rm rfl rfl) ⟨⟨amG.up _, fun w h => h.2.1.cons h.1⟩, trivial⟩)⟩
 have hd : x.tm = tF := hx
 obtain ⟨xdk, xdn, xds, xdla, xdlc, xdls, xdaa, xdac, xdus⟩ := x
 let Td : TT := (TT.mk xdk xdn xds xdla xdlc xdls xdaa xdac xdus)
 refine zaf zac [8] _ _ _ ?_
 refine zab [] (zv8 Td hd) rfl trivial rfl rfl (fun w h => ⟨h.1.1, h.1.get 0 rfl⟩) (fun x _ => ?_) (fun x hx => ?_)
 ·obtain ⟨xvk, xvn, xvs, xvla, xvlc, xvls, xvaa, xvac, xvus⟩ := x
  exact ⟨rfl, rfl⟩
 have he : x.tm = tG := hx
 obtain ⟨xek, xen, xes, xela, xelc, xels, xeaa, xeac, xeus⟩ := x
 obtain ⟨ea, eb, hes, hen⟩ := am_G (TT.mk xek xen xes xela xelc xels xeaa xeac xeus) he
 have hes : xeus = [ea, eb] := hes
 subst hes
 obtain ⟨xzk, xzn, xzs, xzla, xzlc, xzls, xzaa, xzac, xzus⟩ := eb
 have hzn : xzn = 3 := hen
 subst hzn
 refine zai.ent (st' := { s := [(1, .one (.p 0 0)), (2, .one (.p 1 0)), (3, .one (.p 2 0)), (4, .one (.p 3 0)), (6, .one (.p 4 0)), (9, .one (.p 5 0)), (5, .one (.v (.bool true))), (7, .one (.v (.bool true))), (10, .one (.v (.bool true)))], m := [(0, .cells 41 (Ta.cells.map SA.v)), (1, .cells 41 ((cN sA).cells.map SA.v)), (2, .cells 41 ((cN sB).cells.map SA.v)), (3, .cells 41 (Tb.cells.map SA.v)), (4, .cells 41 (Tc.cells.map SA.v)), (5, .cells 41 ((TT.mk xek xen xes xela xelc xels xeaa xeac [ea, (TT.mk xzk 3 xzs xzla xzlc xzls xzaa xzac xzus)]).cells.map SA.v))], k := 6, f := [amG [(TT.mk xek xen xes xela xelc xels xeaa xeac [ea, (TT.mk xzk 3 xzs xzla xzlc xzls xzaa xzac xzus)]), Td, Tc, Tb, Ta]] }) (zaa [(0, .blk 0), (1, .blk 1), (2, .blk 2), (3, .blk 3), (4, .blk 4), (5, .blk 6)] rfl rfl rfl rfl (leB rfl) (rs rfl rfl) (rm rfl rfl) ⟨⟨amG.up _, fun w h => h.2.1.cons h.1⟩, trivial⟩) ?_
 refine zai.told (p := ∃ b, xeaa = some b) (fun w h => ?_) ?_
 ·obtain ⟨⟨a, ha, _⟩, _⟩ := (zpr (h.1.get 0 rfl)).arg (j := 1) rfl
  exact ⟨a, ha⟩
 rintro ⟨eb0, rfl⟩
 let Te : TT := (TT.mk xek xen xes xela xelc xels (some eb0) xeac [ea, (TT.mk xzk 3 xzs xzla xzlc xzls xzaa xzac xzus)])
 refine zaf zac [9] _ _ _ ?_
 refine zab [] (zjh 1) rfl trivial rfl rfl (fun _ _ => trivial) (fun _ _ => ⟨rfl, rfl⟩) (fun _ _ => ?_)
 refine zab [] zt9 rfl trivial rfl rfl (fun w h => ⟨h.2.1.1, vN1 w⟩) (fun _ _ => ⟨rfl, rfl⟩) (fun _ _ => ?_)
 refine zai.ent (st' := { s := [(1, .one (.p 0 0)), (2, .one (.p 1 0)), (3, .one (.p 2 0)), (4, .one (.p 3 0)), (6, .one (.p 4 0)), (9, .one (.p 5 0)), (5, .one (.v (.bool true))), (7, .one (.v (.bool true))), (10, .one (.v (.bool true))), (12, .one (.v (.bool false)))], m := [(0, .cells 41 (Ta.cells.map SA.v)), (1, .cells 41 ((cN sA).cells.map SA.v)), (2, .cells 41 ((cN sB).cells.map SA.v)), (3, .cells 41 (Tb.cells.map SA.v)), (4, .cells 41 (Tc.cells.map SA.v)), (5, .cells 41 (Te.cells.map SA.v))], k := 6, f := [amG [Te, Td, Tc, Tb, Ta]] }) (zaa [(0, .blk 0), (1, .blk 1), (2, .blk 2), (3, .blk 3), (4, .blk 4), (5, .blk 5)] rfl rfl rfl rfl (leB rfl) (rs rfl rfl) (rm rfl rfl) ⟨⟨amG.up _, fun w h => h.2.2.1⟩, trivial⟩) ?_
 refine zai.cutX (X := (Option Addr × Nat) × (TT × TT) × TT) (fun q => q.2.1.1.tm = cT sA /\ q.2.1.2.tm = cT sP /\ q.2.2.tm = cT sQ) (fun q => { s := [(1, .one (.p 0 0)), (2, .one (.p 1 0)), (3, .one (.p 2 0)), (4, .one (.p 3 0)), (6, .one (.p 4 0)), (9, .one (.p 5 0)), (14, .one (.p 6 0)), (5, .one (.v (.bool true))), (7, .one (.v (.bool true))), (10, .one (.v (.bool true))), (12, .one (.v (.bool false))), (13, .one (.v (.slice q.1.1 2 q.1.2))), (15, .one (.v (.bool true)))], m := [(0, .cells 41 (Ta.cells.map SA.v)), (1, .cells 41 ((cN sA).cells.map SA.v)), (2, .cells 41 ((cN sB).cells.map SA.v)), (3, .cells 41 (Tb.cells.map SA.v)), (4, .cells 41 (Tc.cells.map SA.v)), (5, .cells 41 (Te.cells.map SA.v)), (6, .cells 41 (q.2.2.cells.map SA.v))], k := 7, f := [amG [Te, Td, Tc, Tb, Ta], zel q.1.1 [(sP, q.2.1.1), (sQ, q.2.1.2)] q.2.2] }) ?_ (fun q hqq => ?_)
 ·skip
  refine zx0 zac ⟨⟨{ n := 15, tb := [0, 0, 1, 7, 15, 0, 63, 127, 255, 255, 255, 0, 2559, 7167, 16383], at' := [6, 6, 6, 6, 7, 7, 8, 8, 8, 8, 8, 8, 9, 9, 9, 9], us := [[], [], [], [6], [6], [7], [7], [], [], [], [], [8], [], [8], []] }, TT × (Option Addr × Nat) × TT × TT × TT, (zba 0 0 ⟨#[]⟩, (none, 0), zba 0 0 ⟨#[]⟩, zba 0 0 ⟨#[]⟩, zba 0 0 ⟨#[]⟩), fun y k => match k with
   | 0 => { v := ttA (vN 0) }
   | 1 => { v := ttA (cN sA) }
   | 2 => { v := ttA (vN 0) }
   | 3 => { v := .one (.sl 6 0 2 2), m := [(6, .cells 41 (((cN sA).cells ++ (vN 0).cells).map SA.v))] }
   | 4 => { v := ttA y.1, m := [(6, .dead)], f := [fun w => TTIn w y.1], ok := y.1.tm = tO }
   | 5 => { v := .one (.sl 7 0 2 2), m := [(7, .cells 9 [.v (.string sP), .v (.string sQ)])] }
   | 6 => { v := .tup [.one (.v (.slice y.2.1.1 2 y.2.1.2)), .agg (y.2.2.2.2.cells.map SA.v), .one (.v (.bool true))], m := [(7, .dead)], f := [zel y.2.1.1 [(sP, y.2.2.1), (sQ, y.2.2.2.1)] y.2.2.2.2], ok := y.2.2.1.tm = cT sA /\ y.2.2.2.1.tm = cT sP /\ y.2.2.2.2.tm = cT sQ }
   | 7 => { v := .tup [.one (.v (.slice y.2.1.1 2 y.2.1.2)), .agg (y.2.2.2.2.cells.map SA.v), .one (.v (.bool true))] }
   | 8 => { v := .one (.v (.slice y.2.1.1 2 y.2.1.2)) }
   | 9 => { v := .agg (y.2.2.2.2.cells.map SA.v) }
   | 10 => { v := .one (.v (.bool true)) }
   | 11 => { v := .one (.p 8 0), m := [(8, .cells 41 zap)] }
   | 12 => { v := .one (.v (.slice y.2.1.1 2 y.2.1.2)) }
   | 13 => { m := [(8, .cells 41 (y.2.2.2.2.cells.map SA.v))] }
   | 14 => { v := .one (.v (.bool true)) }
   | _ => {}, by kernel_rfl, rfl, rfl, by kernel_rfl, by kernel_rfl, by kernel_rfl, rfl, ⟨?_, ?_, ?_, ?_, ?_, ?_, ?_, ?_, ?_, ?_, ?_, ?_, ?_, ?_, ?_, trivial⟩, fun y h => ?_⟩⟩
  all_goals first | exact ⟨fun y h => ⟨_, _, rfl, rfl, .inl ⟨rfl, _, rfl, y, rfl, trivial, rfl, rfl, rfl, rfl, rfl, fun _ _ => trivial, trivial⟩⟩⟩ | skip
  ·refine ⟨fun y h => ?_⟩
   refine ⟨_, _, rfl, rfl, .inl ⟨rfl, _, rfl, ?_⟩⟩
   exact zab [] (zjh 0) rfl trivial rfl rfl (fun _ _ => trivial) (fun _ _ => ⟨rfl, rfl⟩) (fun _ _ => ⟨y, rfl, trivial, rfl, rfl, rfl, rfl, rfl, fun _ _ => trivial, trivial⟩)
  ·refine ⟨fun y h => ?_⟩
   refine ⟨_, _, rfl, rfl, .inl ⟨rfl, _, rfl, ?_⟩⟩
   exact zab [] (zjh 0) rfl trivial rfl rfl (fun _ _ => trivial) (fun _ _ => ⟨rfl, rfl⟩) (fun _ _ => ⟨y, rfl, trivial, rfl, rfl, rfl, rfl, rfl, fun _ _ => trivial, trivial⟩)
  ·refine ⟨fun y h => ?_⟩
   refine ⟨_, _, rfl, rfl, .inl ⟨rfl, _, rfl, ?_⟩⟩
   refine zau 6 (vs := (cN sA).cells ++ (vN 0).cells) rfl rfl (fun g => ?_)
   refine zab [] (zqj (some ⟨g, 0, none⟩)) rfl trivial rfl rfl (fun w h => ⟨zxz h.1 (cNa w) (vN0 w), vN0 w⟩) (fun x _ => ?_) (fun x hx => ?_)
   ·obtain ⟨xvk, xvn, xvs, xvla, xvlc, xvls, xvaa, xvac, xvus⟩ := x
    exact ⟨rfl, rfl⟩
   have hf : x.tm = tO := hx
   obtain ⟨xfk, xfn, xfs, xfla, xflc, xfls, xfaa, xfac, xfus⟩ := x
   let Tf : TT := (TT.mk xfk xfn xfs xfla xflc xfls xfaa xfac xfus)
   exact ⟨(Tf, y.2), rfl, hf, rfl, rfl, rfl, rfl, rfl, fun w h => ⟨h.1, trivial⟩, TTIn.upS _, trivial⟩
  ·refine ⟨fun y h => ?_⟩
   obtain ⟨⟨xfk, xfn, xfs, xfla, xflc, xfls, xfaa, xfac, xfus⟩, y2⟩ := y
   have hf : (TT.mk xfk xfn xfs xfla xflc xfls xfaa xfac xfus).tm = tO := h 4 rfl
   refine ⟨_, _, rfl, rfl, .inl ⟨rfl, _, rfl, ?_⟩⟩
   refine zau 7 (vs := [.string sP, .string sQ]) rfl rfl (fun g2 => ?_)
   refine zab [] (zz0 (TT.mk xfk xfn xfs xfla xflc xfls xfaa xfac xfus) hf (some ⟨g2, 0, none⟩)) rfl trivial rfl rfl (fun w h => ⟨⟨h.2.2.1.1, ⟨h.1, fun h => (by cases h), Nat.le_refl _, by decide⟩⟩, h.2.1⟩) (fun q _ => ?_) (fun q hq => ?_)
   ·obtain ⟨⟨A1, c1⟩, dn, xvk, xvn, xvs, xvla, xvlc, xvls, xvaa, xvac, xvus⟩ := q
    exact ⟨rfl, rfl⟩
   obtain ⟨⟨A1, c1⟩, dn, xik, xin, xis, xila, xilc, xils, xiaa, xiac, xius⟩ := q
   obtain ⟨hq1, hi⟩ := hq
   obtain ⟨u0, u1, hdn, hp, hq⟩ := zaal dn hq1
   have hdn : dn = [(sP, u0), (sQ, u1)] := hdn
   subst hdn
   exact ⟨((TT.mk xfk xfn xfs xfla xflc xfls xfaa xfac xfus), (A1, c1), u0, u1, (TT.mk xik xin xis xila xilc xils xiaa xiac xius)), rfl, ⟨hp, hq, hi⟩, rfl, rfl, rfl, rfl, rfl, fun w h => ⟨h.1, trivial⟩, zel.up _ _ _, trivial⟩
  ·refine ⟨fun y h => ?_⟩
   obtain ⟨yf, yA, yp, yq, xik, xin, xis, xila, xilc, xils, xiaa, xiac, xius⟩ := y
   refine ⟨_, _, rfl, rfl, .inl ⟨rfl, _, rfl, ?_⟩⟩
   exact ⟨_, rfl, trivial, rfl, rfl, rfl, rfl, rfl, fun _ _ => trivial, trivial⟩
  ·skip
   obtain ⟨yf, ⟨A1, c1⟩, yp, yq, xik, xin, xis, xila, xilc, xils, xiaa, xiac, xius⟩ := y
   have hq : yp.tm = cT sA /\ yq.tm = cT sP /\ (TT.mk xik xin xis xila xilc xils xiaa xiac xius).tm = cT sQ := h 6 (by decide)
   exact ⟨((A1, c1), (yp, yq), (TT.mk xik xin xis xila xilc xils xiaa xiac xius)), hq, (zaa [(0, .blk 0), (1, .blk 1), (2, .blk 2), (3, .blk 3), (4, .blk 4), (5, .blk 5), (6, .blk 8)] rfl rfl rfl rfl (leB rfl) (rs rfl rfl) (rm rfl rfl) ⟨⟨amG.up _, fun w h => h.2.2.1⟩, ⟨zel.up _ _ _, fun w h => h.1⟩, trivial⟩)⟩
 obtain ⟨⟨A1, c1⟩, ⟨⟨xpk, xpn, xps, xpla, xplc, xpls, xpaa, xpac, xpus⟩, ⟨xqk, xqn, xqs, xqla, xqlc, xqls, xqaa, xqac, xqus⟩⟩, ⟨xik, xin, xis, xila, xilc, xils, xiaa, xiac, xius⟩⟩ := q
 obtain ⟨hp, hq, hi⟩ := hqq
 have hqs : xqs = sP := zx9 (TT.mk xqk xqn xqs xqla xqlc xqls xqaa xqac xqus) hq
 subst hqs
 let Tp : TT := (TT.mk xpk xpn xps xpla xplc xpls xpaa xpac xpus)
 let Tq : TT := (TT.mk xqk xqn sP xqla xqlc xqls xqaa xqac xqus)
 let Ti : TT := (TT.mk xik xin xis xila xilc xils xiaa xiac xius)
 have hp : Tp.tm = cT sA := hp
 have hq : Tq.tm = cT sP := hq
 have hi : Ti.tm = cT sQ := hi
 refine zaf zac [12] _ _ _ ?_
 refine zai.ent (st' := { s := [(1, .one (.p 0 0)), (2, .one (.p 1 0)), (3, .one (.p 2 0)), (4, .one (.p 3 0)), (6, .one (.p 4 0)), (9, .one (.p 5 0)), (14, .one (.p 6 0)), (5, .one (.v (.bool true))), (7, .one (.v (.bool true))), (10, .one (.v (.bool true))), (12, .one (.v (.bool false))), (13, .one (.v (.slice A1 2 c1))), (15, .one (.v (.bool true)))], m := [(0, .cells 41 (Ta.cells.map SA.v)), (1, .cells 41 ((cN sA).cells.map SA.v)), (2, .cells 41 ((cN sB).cells.map SA.v)), (3, .cells 41 (Tb.cells.map SA.v)), (4, .cells 41 (Tc.cells.map SA.v)), (5, .cells 41 (Te.cells.map SA.v)), (6, .cells 41 (Ti.cells.map SA.v))], k := 7, f := [amG [Te, Td, Tc, Tb, Ta], zel A1 [(sP, Tp), (sQ, Tq)] Ti] }) (zaa [(0, .blk 0), (1, .blk 1), (2, .blk 2), (3, .blk 3), (4, .blk 4), (5, .blk 5), (6, .blk 6)] rfl rfl rfl rfl (leB rfl) (rs rfl rfl) (rm rfl rfl) ⟨⟨amG.up _, fun w h => h.1⟩, ⟨zel.up _ _ _, fun w h => h.2.1⟩, trivial⟩) ?_
 refine zaf zac [13] _ _ _ ?_
 refine zab [] (zv1 Ti hi A1 c1 Tp Tq hp hq) rfl trivial rfl rfl (fun w h => ⟨⟨h.1.1, h.2.1.1.1, h.2.1.1.2⟩, h.2.1.2⟩) (fun x _ => ?_) (fun x hx => ?_)
 ·obtain ⟨xvk, xvn, xvs, xvla, xvlc, xvls, xvaa, xvac, xvus⟩ := x
  exact ⟨rfl, rfl⟩
 have hj : x.tm = tO := hx
 obtain ⟨xjk, xjn, xjs, xjla, xjlc, xjls, xjaa, xjac, xjus⟩ := x
 let Tj : TT := (TT.mk xjk xjn xjs xjla xjlc xjls xjaa xjac xjus)
 refine zai.ent (st' := { s := [(1, .one (.p 0 0)), (2, .one (.p 1 0)), (3, .one (.p 2 0)), (4, .one (.p 3 0)), (6, .one (.p 4 0)), (9, .one (.p 5 0)), (14, .one (.p 6 0)), (16, .one (.p 7 0)), (5, .one (.v (.bool true))), (7, .one (.v (.bool true))), (10, .one (.v (.bool true))), (12, .one (.v (.bool false))), (13, .one (.v (.slice A1 2 c1))), (15, .one (.v (.bool true))), (17, .one (.v (.bool true)))], m := [(0, .cells 41 (Ta.cells.map SA.v)), (1, .cells 41 ((cN sA).cells.map SA.v)), (2, .cells 41 ((cN sB).cells.map SA.v)), (3, .cells 41 (Tb.cells.map SA.v)), (4, .cells 41 (Tc.cells.map SA.v)), (5, .cells 41 (Te.cells.map SA.v)), (6, .cells 41 (Ti.cells.map SA.v)), (7, .cells 41 (Tj.cells.map SA.v))], k := 8, f := [amG [Tj, Te, Td, Tc, Tb, Ta], zel A1 [(sP, Tp), (sQ, Tq)] Ti] }) (zaa [(0, .blk 0), (1, .blk 1), (2, .blk 2), (3, .blk 3), (4, .blk 4), (5, .blk 5), (6, .blk 6), (7, .blk 7)] rfl rfl rfl rfl (leB rfl) (rs rfl rfl) (rm rfl rfl) ⟨⟨amG.up _, fun w h => h.2.1.cons h.1⟩, ⟨zel.up _ _ _, fun w h => h.2.2.1⟩, trivial⟩) ?_
 refine zaf zac [14] _ _ _ ?_
 refine zab [] (zaan Tb hb) rfl trivial rfl rfl (fun w h => ⟨h.1.1, h.1.get 4 rfl⟩) (fun x _ => ?_) (fun x hx => ?_)
 ·obtain ⟨xvk, xvn, xvs, xvla, xvlc, xvls, xvaa, xvac, xvus⟩ := x
  exact ⟨rfl, rfl⟩
 have hl : x.tm = tR := hx
 obtain ⟨xlk, xln, xls, xlla, xllc, xlls, xlaa, xlac, xlus⟩ := x
 let Tl : TT := (TT.mk xlk xln xls xlla xllc xlls xlaa xlac xlus)
 refine zai.ent (st' := { s := [(1, .one (.p 0 0)), (2, .one (.p 1 0)), (3, .one (.p 2 0)), (4, .one (.p 3 0)), (6, .one (.p 4 0)), (9, .one (.p 5 0)), (14, .one (.p 6 0)), (16, .one (.p 7 0)), (18, .one (.p 8 0)), (5, .one (.v (.bool true))), (7, .one (.v (.bool true))), (10, .one (.v (.bool true))), (12, .one (.v (.bool false))), (13, .one (.v (.slice A1 2 c1))), (15, .one (.v (.bool true))), (17, .one (.v (.bool true))), (19, .one (.v (.bool true)))], m := [(0, .cells 41 (Ta.cells.map SA.v)), (1, .cells 41 ((cN sA).cells.map SA.v)), (2, .cells 41 ((cN sB).cells.map SA.v)), (3, .cells 41 (Tb.cells.map SA.v)), (4, .cells 41 (Tc.cells.map SA.v)), (5, .cells 41 (Te.cells.map SA.v)), (6, .cells 41 (Ti.cells.map SA.v)), (7, .cells 41 (Tj.cells.map SA.v)), (8, .cells 41 (Tl.cells.map SA.v))], k := 9, f := [amG [Tl, Tj, Te, Td, Tc, Tb, Ta], zel A1 [(sP, Tp), (sQ, Tq)] Ti] }) (zaa [(0, .blk 0), (1, .blk 1), (2, .blk 2), (3, .blk 3), (4, .blk 4), (5, .blk 5), (6, .blk 6), (7, .blk 7), (8, .blk 8)] rfl rfl rfl rfl (leB rfl) (rs rfl rfl) (rm rfl rfl) ⟨⟨amG.up _, fun w h => h.2.1.cons h.1⟩, ⟨zel.up _ _ _, fun w h => h.2.2.1⟩, trivial⟩) ?_
 refine zaf zac [15] _ _ _ ?_
 refine zau 9 (vs := [.int .i64 1, .int .i64 1, .int .i64 (-1), .int .i64 (-1), .int .i64 (-1)]) rfl rfl (fun g => ?_)
 refine zau 10 (vs := [.int .i64 2, .int .i64 (-1), .int .i64 (-1), .int .i64 (-1), .int .i64 (-1)]) rfl rfl (fun g2 => ?_)
 refine zab [] (zaao (some ⟨g, 0, none⟩) (some ⟨g2, 0, none⟩)) rfl trivial rfl rfl (fun w h => ⟨⟨h.2.2.1.1, zxm (l := ⟨2, -1, -1, -1, -1⟩) h.1⟩, zabl h.2.1⟩) (fun x _ => ?_) (fun x hx => ?_)
 ·obtain ⟨xvk, xvn, xvs, xvla, xvlc, xvls, xvaa, xvac, xvus⟩ := x
  exact ⟨rfl, rfl⟩
 have ho : x.tm = tW := hx
 obtain ⟨xok, xon, xos, xola, xolc, xols, xoaa, xoac, xous⟩ := x
 obtain ⟨ol, hols, hob⟩ := am_W (TT.mk xok xon xos xola xolc xols xoaa xoac xous) ho
 have hols : xols = [ol] := hols
 subst hols
 obtain ⟨lb, l0, l1, l2, l3⟩ := ol
 have hlb : lb = 3 := hob
 subst hlb
 refine zai.ent (st' := { s := [(1, .one (.p 0 0)), (2, .one (.p 1 0)), (3, .one (.p 2 0)), (4, .one (.p 3 0)), (6, .one (.p 4 0)), (9, .one (.p 5 0)), (14, .one (.p 6 0)), (16, .one (.p 7 0)), (18, .one (.p 8 0)), (20, .one (.p 9 0)), (5, .one (.v (.bool true))), (7, .one (.v (.bool true))), (10, .one (.v (.bool true))), (12, .one (.v (.bool false))), (13, .one (.v (.slice A1 2 c1))), (15, .one (.v (.bool true))), (17, .one (.v (.bool true))), (19, .one (.v (.bool true))), (21, .one (.v (.bool true)))], m := [(0, .cells 41 (Ta.cells.map SA.v)), (1, .cells 41 ((cN sA).cells.map SA.v)), (2, .cells 41 ((cN sB).cells.map SA.v)), (3, .cells 41 (Tb.cells.map SA.v)), (4, .cells 41 (Tc.cells.map SA.v)), (5, .cells 41 (Te.cells.map SA.v)), (6, .cells 41 (Ti.cells.map SA.v)), (7, .cells 41 (Tj.cells.map SA.v)), (8, .cells 41 (Tl.cells.map SA.v)), (9, .cells 41 ((TT.mk xok xon xos xola xolc [⟨3, l0, l1, l2, l3⟩] xoaa xoac xous).cells.map SA.v))], k := 10, f := [amG [(TT.mk xok xon xos xola xolc [⟨3, l0, l1, l2, l3⟩] xoaa xoac xous), Tl, Tj, Te, Td, Tc, Tb, Ta], zel A1 [(sP, Tp), (sQ, Tq)] Ti] }) (zaa [(0, .blk 0), (1, .blk 1), (2, .blk 2), (3, .blk 3), (4, .blk 4), (5, .blk 5), (6, .blk 6), (7, .blk 7), (8, .blk 8), (9, .blk 11)] rfl rfl rfl rfl (leB rfl) (rs rfl rfl) (rm rfl rfl) ⟨⟨amG.up _, fun w h => h.2.2.2.1.cons h.1⟩, ⟨zel.up _ _ _, fun w h => h.2.2.2.2.1⟩, trivial⟩) ?_
 refine zai.told (p := ∃ b off, xola = some ⟨b, off, none⟩) (fun w h => ?_) ?_
 ·obtain ⟨b, off, ha, _⟩ := (zup (h.1.get 0 rfl)).2 Nat.one_pos
  exact ⟨b, off, ha⟩
 rintro ⟨ob0, oo0, rfl⟩
 refine zai.told (p := ∃ b, A1 = some b) (fun w h => ?_) ?_
 ·obtain ⟨a, ha, _⟩ := h.2.1.1.1 0 _ rfl
  exact ⟨a, ha⟩
 rintro ⟨ab0, rfl⟩
 refine zaf zac [] _ _ _ ?_
 refine .inl ⟨79, [0, 1, 3, 7, 15, 31, 63, 127, 255, 511, 1023, 2047, 4095, 8191, 16383, 32767, 65535, 131071, 262143, 524287, 1048575, 2097151, 2097151, 2097151, 10485759, 31457279, 67108863, 134217727, 268435455, 536870911, 536870911, 2147483647, 4294967295, 8589934591, 17179869183, 34359738367, 68719476735, 137438953471, 274877906943, 549755813887, 1099511627775, 2199023255551, 4398046511103, 4398046511103, 17592186044415, 35184372088831, 70368744177663, 140737488355327, 281474976710655, 562949953421311, 1125899906842623, 2251799813685247, 4503599627370495, 9007199254740991, 18014398509481983, 36028797018963967, 36028797018963967, 36028797018963967, 108086391056891903, 540431955284459519, 1116892707587883007, 2305843009213693951, 4611686018427387903, 9223372036854775807, 18446744073709551615, 18446744073709551615, 18446744073709551615, 92233720368547758079, 276701161105643274239, 590295810358705651711, 1180591620717411303423, 2361183241434822606847, 4722366482869645213695, 9444732965739290427391, 18889465931478580854783, 37778931862957161709567, 75557863725914323419135, 151115727451828646838271, 302231454903657293676543, 604462909807314587353087], fun vs i => match i with
  | 25 => { pre := aG (zsw (vs 24)) 1 [cN sB] (cN sA), post := isT tY }
  | 26 => { pre := fun w => isT Tb.tm (vs 25) w /\ TTIn w Tb, R := fun u => u = .bool true, nf := fun _ => .bool true }
  | 31 => { pre := fun w => isT Tc.tm Ta.val w /\ TTIn w Tc, R := fun u => u = .bool true, nf := fun _ => .bool true }
  | 36 => { c := { n := 1 } }
  | 38 => { c := { v := .int .i64 3 } }
  | 39 => { b := some true }
  | 43 => { R := fun u => u = (cN sQ).val, nf := fun _ => (cN sQ).val }
  | 44 => { pre := fun w => isT Ti.tm (cN sQ).val w /\ TTIn w Ti, R := fun u => u = .bool true, nf := fun _ => .bool true }
  | 48 => { c := { n := 1 } }
  | 51 => { c := { v := .string sP } }
  | 52 => { b := some true }
  | 56 => { R := fun u => u = (vN 0).val, nf := fun _ => (vN 0).val }
  | 58 => { R := fun u => u = (vN 0).val, nf := fun _ => (vN 0).val }
  | 60 => { pre := aG (zsw (vs 59)) 2 [cN sA, vN 0] (vN 0), post := isT tO }
  | 61 => { pre := fun w => isT Tj.tm (vs 60) w /\ TTIn w Tj, R := fun u => u = .bool true, nf := fun _ => .bool true }
  | 65 => { R := fun u => u = (cN sC).val, nf := fun _ => (cN sC).val }
  | 68 => { pre := aG (zsw (vs 67)) 1 [cN sB] (cN sC), post := isT tR }
  | 69 => { pre := fun w => isT Tl.tm (vs 68) w /\ TTIn w Tl, R := fun u => u = .bool true, nf := fun _ => .bool true }
  | 74 => { c := { n := 0 } }
  | 76 => { c := { v := .int .i64 3 } }
  | 77 => { b := some true }
  | _ => {}, by kernel_rfl, rfl, by kernel_rfl, by kernel_rfl, by kernel_rfl, by decide, fun vals => ?_⟩
 refine ⟨fun _ => ⟨zwm _, fun w h => ⟨zu9 h.1 (cNa w), cNa w⟩, fun _ h => (by first | exact h | rfl)⟩, ?_⟩
 refine ⟨fun _ => ⟨zjg Tb _, fun w h => ⟨ztl hb h.1, (h.2.2.1.get 6 rfl)⟩, fun _ h => (by first | exact h | rfl)⟩, ?_⟩
 refine ⟨fun _ => ⟨zjg Tc _, fun w h => ⟨⟨Ta, ha.trans hc.symm, rfl, (h.2.2.2.1.get 7 rfl)⟩, (h.2.2.2.1.get 5 rfl)⟩, fun _ h => (by first | exact h | rfl)⟩, ?_⟩
 refine ⟨fun _ => ⟨rfl, Nat.le_refl _, fun w h => rfl⟩, ?_⟩
 refine ⟨fun _ => fun w h => ?_, ?_⟩
 ·obtain ⟨⟨a, hq, h3⟩, _⟩ := (zpr (h.2.2.2.2.1.get 3 rfl)).arg (j := 1) rfl
  cases hq
  exact ⟨_, rfl, h3 1 _ rfl⟩
 refine ⟨fun _ => rfl, ?_⟩
 refine ⟨fun _ => ⟨zp2 sQ, fun w h => trivial, fun _ h => (by first | exact h | rfl)⟩, ?_⟩
 refine ⟨fun _ => ⟨zjg Ti _, fun w h => ⟨⟨cN sQ, (zhq sQ).trans hi.symm, rfl, cNa w⟩, h.2.2.2.2.2.2.1.2⟩, fun _ h => (by first | exact h | rfl)⟩, ?_⟩
 refine ⟨fun _ => ⟨rfl, Nat.le_refl _, fun w h => rfl⟩, ?_⟩
 refine ⟨fun _ => fun w h => ?_, ?_⟩
 ·obtain ⟨a, hq, h3⟩ := h.2.2.2.2.2.2.2.1.1.1 9 _ rfl
  cases hq
  exact ⟨_, rfl, h3⟩
 refine ⟨fun _ => rfl, ?_⟩
 refine ⟨fun _ => ⟨zxn 0, fun w h => trivial, fun _ h => (by first | exact h | rfl)⟩, ?_⟩
 refine ⟨fun _ => ⟨zxn 0, fun w h => trivial, fun _ h => (by first | exact h | rfl)⟩, ?_⟩
 refine ⟨fun _ => ⟨zui _, fun w h => ⟨zyb h.1 (cNa w) (vN0 w), vN0 w⟩, fun _ h => (by first | exact h | rfl)⟩, ?_⟩
 refine ⟨fun _ => ⟨zjg Tj _, fun w h => ⟨ztl hj h.1, (h.2.2.2.2.2.2.2.2.2.2.1.get 2 rfl)⟩, fun _ h => (by first | exact h | rfl)⟩, ?_⟩
 refine ⟨fun _ => ⟨zp2 sC, fun w h => trivial, fun _ h => (by first | exact h | rfl)⟩, ?_⟩
 refine ⟨fun _ => ⟨zvy _, fun w h => ⟨zu9 h.1 (cNa w), cNa w⟩, fun _ h => (by first | exact h | rfl)⟩, ?_⟩
 refine ⟨fun _ => ⟨zjg Tl _, fun w h => ⟨ztl hl h.1, (h.2.2.2.2.2.2.2.2.2.2.2.2.2.2.1.get 1 rfl)⟩, fun _ h => (by first | exact h | rfl)⟩, ?_⟩
 refine ⟨fun _ => ⟨rfl, Nat.one_pos, fun w h => rfl⟩, ?_⟩
 refine ⟨fun _ => fun w h => ?_, ?_⟩
 ·obtain ⟨b, off, hq, h3⟩ := (zup (h.2.2.2.2.2.2.2.2.2.2.2.2.2.2.2.1.get 0 rfl)).2 Nat.one_pos
  cases hq
  exact ⟨_, rfl, (h3 0 _ rfl).1⟩
 refine ⟨fun _ => rfl, ?_⟩
 intro _
 exact ⟨_, rfl, Told.val rfl⟩
end Go.Proofs.YtmkpiekbpakigaaDoor
end
