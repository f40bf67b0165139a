/- Symbolic walks: regions of open order, all of whose operations but the last only read or add to memory. -/
import Derived.Test.YtmkpiekbpakigaaDoorSymF
set_option linter.unusedVariables false
set_option linter.unusedSimpArgs false
namespace Go.Proofs.Sym
open Go.RowKit Go.Proofs.Base Go.Proofs.Mono

def upd (vals : Nat → Value) (k : Nat) (v : Value) : Nat → Value := fun j => if j = k then v else vals j

section
variable {P : Program} {ops : Array Oper}
/-- As any_mono, where what is told of an operation's value may hang on the values of those ahead of it. -/
theorem any_mono2 (T : Table ops) {Ext : World → World → Prop} (hrf : ∀ a, Ext a a) (C : World → Prop) (hC : ∀ {w w'}, Ext w w' → C w → C w') (S : Nat → (Nat → Value) → World → Prop)
    (hS : ∀ {k vals w w'}, Ext w w' → S k vals w → S k vals w') (hloc : ∀ {k vals vals' w}, k < ops.size → (∀ j, j < ops.size → j = k ∨ bef ops k j = true → vals j = vals' j) → S k vals w → S k vals' w)
    (a0 : Act) (Q : Exit → Act → World → Prop) (m : Nat) (hm : m ≤ ops.size) (htail : ∀ k, m ≤ k → k < ops.size → ∀ j, j < k → bef ops k j = true)
    (hstep : ∀ k vals w o, k < m → ops[k]? = some o → C w → (∀ j, j < ops.size → bef ops k j = true → S j vals w) →
      if Region.wanted o (yielded ops (putUpto ops a0 vals k).tmps) = true then yieldsM P o (putUpto ops a0 vals k) w (fun v w' => Ext w w' ∧ S k (upd vals k v) w') else S k (upd vals k undef) w)
    (hend : ∀ (fuel : Nat) (listed : Array Bool) (vals : Nat → Value) (a : Act) (w : World), listed.size = ops.size → listed.toList.count false ≤ fuel → (∀ j, j < ops.size → listed.getD j false = true → j < m) → (∀ j, j < m → listed.getD j false = true) →
      Mono.At ops a0 vals listed a → C w → (∀ j, j < m → S j vals w) → wpAny P .any ops Q fuel listed a w) :
    ∀ (fuel : Nat) (listed : Array Bool) (vals : Nat → Value) (a : Act) (w : World), listed.size = ops.size → listed.toList.count false ≤ fuel → (∀ j, j < ops.size → listed.getD j false = true → j < m) →
      (∀ k, k < ops.size → listed.getD k false = true → ∀ j, j < ops.size → bef ops k j = true → listed.getD j false = true) → Mono.At ops a0 vals listed a → C w → (∀ j, j < ops.size → listed.getD j false = true → S j vals w) →
      wpAny P .any ops Q fuel listed a w := by
  have low : ∀ (listed : Array Bool), listed.size = ops.size → (¬ ∀ k, k < m → listed.getD k false = true) → Region.ready .any ops listed ≠ [] ∧ ∃ k, k < m ∧ listed.getD k false = false := by
    intro listed hsz hno
    have hex : ∃ k, k < m ∧ listed.getD k false = false := by
      refine Classical.byContradiction (fun h => hno (fun k hk => ?_))
      cases hl : listed.getD k false with
      | true => rfl
      | false => exact absurd ⟨k, hk, hl⟩ h
    refine ⟨?_, hex⟩
    obtain ⟨k0, hk0⟩ := hex
    have key : ∀ k, k < m ∧ listed.getD k false = false → ∃ k, k < m ∧ listed.getD k false = false ∧ ∀ j, j < k → listed.getD j false = true := by
      intro k
      induction k using Nat.strongRecOn with
      | _ k ih =>
        intro hk
        by_cases h : ∀ j, j < k → listed.getD j false = true
        · exact ⟨k, hk.1, hk.2, h⟩
        · have : ∃ j, j < k ∧ listed.getD j false = false := by
            refine Classical.byContradiction (fun h2 => h (fun j hj => ?_))
            cases hl : listed.getD j false with
            | true => rfl
            | false => exact absurd ⟨j, hj, hl⟩ h2
          obtain ⟨j, hj, hl⟩ := this
          exact ih j hj ⟨by omega, hl⟩
    obtain ⟨k, hk, hu, hlow⟩ := key k0 hk0
    have hkn : k < ops.size := by omega
    refine List.ne_nil_of_mem (a := k) (mem_ready.2 ⟨?_, ops[k], Array.getElem?_eq_getElem hkn, fun e he hbd => hlow e.on (T.back (Array.getElem?_eq_getElem hkn) e he hbd)⟩)
    simpa [Array.getD_eq_getD_getElem?, hsz, hkn] using hu
  intro fuel
  induction fuel with
  | zero =>
    intro listed vals a w hsz hcnt hpre hcl hA hCw hSw
    have hall : ∀ k, k < m → listed.getD k false = true := fun k hk => by
      cases hu : listed.getD k false with
      | true => rfl
      | false =>
        exfalso
        have hkn : k < ops.size := by omega
        have : false ∈ listed.toList := by
          have h2 : listed[k]'(by omega) = false := by simpa [Array.getD_eq_getD_getElem?, hsz, hkn] using hu
          rw [← h2]
          exact Array.getElem_mem_toList (h := by omega)
        have := List.count_pos_iff.2 this
        omega
    exact hend 0 listed vals a w hsz hcnt hpre hall hA hCw (fun j hj => hSw j (by omega) (hall j hj))
  | succ fuel ih =>
    intro listed vals a w hsz hcnt hpre hcl hA hCw hSw
    by_cases hdone : ∀ k, k < m → listed.getD k false = true
    · exact hend _ listed vals a w hsz hcnt hpre hdone hA hCw (fun j hj => hSw j (by omega) (hdone j hj))
    obtain ⟨hr1, k1, hk1, hu1⟩ := low listed hsz hdone
    refine ⟨fun h => absurd h hr1, fun i hi => ?_⟩
    obtain ⟨h1, o, ho, hall⟩ := mem_ready.1 hi
    have hlt : i < ops.size := (Array.getElem?_eq_some_iff.1 ho).1
    have hun : listed.getD i false = false := by
      simpa [Array.getD_eq_getD_getElem?, hsz, hlt] using h1
    have hb : ∀ j, j < ops.size → bef ops i j = true → listed.getD j false = true := by
      intro j hj hbj
      obtain ⟨_, e, he, hbd, h2⟩ := T.close ho hj hbj
      have hle := hall e he hbd
      rcases h2 with rfl | h2
      · exact hle
      · exact hcl e.on (Nat.lt_trans (T.back ho e he hbd) hlt) hle j hj h2
    have hc : ∀ j, j < ops.size → bef ops j i = true → listed.getD j false = false := by
      intro j hj hbj
      cases hlj : listed.getD j false with
      | false => rfl
      | true =>
        have := hcl j hj hlj i hlt hbj
        rw [hun] at this
        cases this
    have hlook := fun t (ht : t ∈ o.looksAt ops) => same_looks T ho hA hun hb hc ht
    have him : i < m := by
      refine Classical.byContradiction (fun hge => ?_)
      have := hb k1 (by omega) (htail i (by omega) hlt k1 (by omega))
      rw [hu1] at this
      cases this
    have hst := hstep i vals w o him ho hCw (fun j hj hbj => hSw j hj (hb j hj hbj))
    have next : ∀ v w', Ext w w' → S i (upd vals i v) w' → wpAny P .any ops Q fuel (listed.setIfInBounds i true) (a.put (dstOf ops i) v) w' := by
      intro v w' he hs
      have hl : ∀ j d, (listed.setIfInBounds i true).getD j d = if j = i then true else listed.getD j d := by
        intro j d
        by_cases h : j = i
        · subst h
          rw [if_pos rfl]
          simp [Array.getD_eq_getD_getElem?, hsz, hlt]
        · rw [if_neg h, getD_set_ne d (Ne.symm h)]
      refine ih _ (upd vals i v) _ w' (by simpa using hsz) ?_ (fun j hj hlj => ?_) ?_ (at_put T hlt hsz hun hA v) (hC he hCw) ?_
      · have h2 : listed[i]'(by omega) = false := by simpa [Array.getD_eq_getD_getElem?, hsz, hlt] using h1
        have h3 : (listed.setIfInBounds i true).toList.count false + 1 = listed.toList.count false := by
          rw [Array.toList_setIfInBounds, List.count_set (by simpa using (by omega : i < listed.size))]
          have : listed.toList[i]'(by simpa using (by omega : i < listed.size)) = false := by simpa using h2
          have hp : 0 < listed.toList.count false := List.count_pos_iff.2 (by rw [← h2]; exact Array.getElem_mem_toList (h := by omega))
          rw [this]
          simp only [beq_self_eq_true, if_true]
          have h5 : (true == false) = false := rfl
          rw [h5]
          simp only [Bool.false_eq_true, if_false]
          omega
        omega
      · rw [hl] at hlj
        by_cases hji : j = i
        · omega
        · rw [if_neg hji] at hlj
          exact hpre j hj hlj
      · intro k hk hlk j hj hbj
        rw [hl] at hlk ⊢
        by_cases hji : j = i
        · rw [if_pos hji]
        · rw [if_neg hji]
          by_cases hki : k = i
          · subst hki; exact hb j hj hbj
          · rw [if_neg hki] at hlk
            exact hcl k hk hlk j hj hbj
      · intro j hj hlj
        by_cases hji : j = i
        · subst hji
          exact hs
        · rw [hl, if_neg hji] at hlj
          refine hloc hj (fun q hq hqj => ?_) (hS he (hSw j hj hlj))
          have hne : q ≠ i := by
            rintro rfl
            rcases hqj with h5 | h5
            · exact hji h5.symm
            · have := hcl j hj hlj q hq h5
              rw [hun] at this
              cases this
          simp [upd, hne]
    unfold wpOp
    rw [ho]
    simp only
    rw [wanted_same o hlook]
    have hd : o.dst = dstOf ops i := by simp [dstOf, ho]
    by_cases hw : Region.wanted o (yielded ops (putUpto ops a0 vals i).tmps) = true
    · rw [if_pos hw] at hst ⊢
      refine .inl (wp_of_yieldsM (R := fun v w' => Ext w w' ∧ S i (upd vals i v) w') ?_ (fun v w' hR => by rw [hd]; exact next v w' hR.1 hR.2))
      unfold yieldsM at hst ⊢
      rwa [execOp_same o (Region.noSelect_spec T.sel i o · · ho) hlook]
    · rw [if_neg hw] at hst ⊢
      rw [hd]
      exact next undef w (hrf w) hst
end

/-! ### What a region of open order asks -/
/-- What a walk tells of an operation of such a region. -/
structure An where
  b : Option Bool := none
  c : Ch := {}
  pre : World → Prop := fun _ => True
  R : Value → Prop := fun _ => True
  post : Value → World → Prop := fun _ _ => True
  nf : Value → Value := id
structure Dl where
  dst : Option Nat
  v : SV
  p : Option Prop
  f : Option (World → Prop)
def plainSV : SV → Option Value
  | .one (.v x) => some x
  | .agg xs => match plainOf xs with
    | some vs => some (.agg vs.toArray)
    | none => none
  | _ => none
def sAddr : Value → Option Addr
  | .slice a _ _ => a
  | _ => none
def RowFact (A : Option Addr) (vs : List Value) (w : World) : Prop := ∃ a, A = some a ∧ ∀ j u, vs[j]? = some u → w.cell? (a.add j) = some u
theorem RowFact.up (A : Option Addr) (vs : List Value) : Up (RowFact A vs) := by
  rintro w w' h ⟨a, ha, hc⟩
  exact ⟨a, ha, fun j u hj => h.cell (hc j u hj)⟩
def bitOf (tb : List Nat) (k j : Nat) : Bool := Nat.testBit (tb.getD k 0) j
def maskV (tb : List Nat) (k : Nat) (vals : Nat → Value) (j : Nat) : Value := match bitOf tb k j with
  | true => vals j
  | false => undef
def mask (tb : List Nat) (k : Nat) : List (Nat × Dl) → List (Nat × Dl)
  | [] => []
  | (j, d) :: r => match bitOf tb k j with
    | true => (j, d) :: mask tb k r
    | false => mask tb k r
def selS (N : Nat) : List (Nat × Dl) → List (Nat × SV)
  | [] => []
  | (_, d) :: r => match d.dst with
    | none => selS N r
    | some t => match Nat.blt t N with
      | true => (t, d.v) :: selS N r
      | false => selS N r
def selF : List (Nat × Dl) → List (World → Prop)
  | [] => []
  | (_, d) :: r => match d.f with
    | some F => F :: selF r
    | none => selF r
def selP : List (Nat × Dl) → Prop
  | [] => True
  | (_, d) :: r => match d.p with
    | some p => p ∧ selP r
    | none => selP r
def hasN (x : Nat) : List Nat → Bool
  | [] => false
  | y :: r => match Nat.beq x y with
    | true => true
    | false => hasN x r
def keepN {α : Type _} (l : List Nat) : List (Nat × α) → List (Nat × α)
  | [] => []
  | (i, v) :: r => match hasN i l with
    | true => (i, v) :: keepN l r
    | false => keepN l r
/-- The state that operation k meets. -/
def dstate (N : Nat) (st : St) (sel : List (Nat × Dl)) (looks : List Nat) : St := { s := keepN looks (selS N sel ++ st.s), m := st.m, k := st.k, f := selF sel ++ st.f, b := st.b }
def dfin (N : Nat) (st : St) (ds : List (Nat × Dl)) : St := { s := selS N ds ++ st.s, m := st.m, k := st.k, f := selF ds ++ st.f, b := st.b }
def evRun (P : Program) (T : Tab) (u : Value) (an : An) (o : Oper) (st : St) : Option (Dl × Option Prop) := match sig T st o with
  | .det v => match an.b with
    | none => some (⟨o.dst, v, none, none⟩, none)
    | some b => match v with
      | .one (.v (.bool b')) => some (⟨o.dst, .one (.v (.bool b)), none, none⟩, some (b' = b))
      | _ => none
  | .pick ob v => some (⟨o.dst, v an.c, none, none⟩, some (ob an.c))
  | .new v _ cs => match v with
    | .one (.sl i 0 n c) => match Nat.beq i st.k, plainOf cs with
      | true, some vs => some (⟨o.dst, .one (.v (.slice (sAddr u) n c)), none, some (RowFact (sAddr u) vs)⟩, none)
      | _, _ => none
    | _ => none
  | .ask R F => some (⟨o.dst, .one (.v (an.nf u)), some (R u), some (F u)⟩, some (∀ q, R q → q = an.nf q))
  | .call f args => match allSome plainSV args with
    | some vs => some (⟨o.dst, .one (.v (an.nf u)), some (an.R u), some (an.post u)⟩, some (PCall P f vs an.pre an.R an.post ∧ (∀ w, AllF st.f w → an.pre w) ∧ ∀ q, an.R q → q = an.nf q))
    | none => none
  | _ => none
def evalD (P : Program) (T : Tab) (ops : Array Oper) (u : Value) (an : An) (o : Oper) (st : St) : Option (Dl × Option Prop) := match o.guard with
  | none => evRun P T u an o st
  | some (g, want) => match (ops[g]?).bind (·.dst) with
    | none => none
    | some t => match get t st.s with
      | some (.one (.v (.bool true))) => match want with
        | true => evRun P T u an o st
        | false => some (⟨o.dst, .one (.v undef), none, none⟩, none)
      | some (.one (.v (.bool false))) => match want with
        | false => evRun P T u an o st
        | true => some (⟨o.dst, .one (.v undef), none, none⟩, none)
      | some (.one (.v (.tuple _))) => some (⟨o.dst, .one (.v undef), none, none⟩, none)
      | _ => none
def andO (ob : Option Prop) (p q : Prop) : Prop := match ob with
  | none => q
  | some ob => (p → ob) ∧ q
def dgo (P : Program) (T : Tab) (N : Nat) (ops : Array Oper) (tb : List Nat) (ann : (Nat → Value) → Nat → An) (vals : Nat → Value) (st : St) (F : List (Nat × Dl) → Prop) : Nat → List Oper → List (Nat × Dl) → Prop
  | _, [], ds => F ds
  | k, o :: r, ds => match evalD P T ops (vals k) (ann (maskV tb k vals) k) o (dstate N st (mask tb k ds) (o.looksAt ops)) with
    | none => False
    | some (d, ob) => andO ob (selP (mask tb k ds)) (dgo P T N ops tb ann vals st F (k + 1) r ((k, d) :: ds))
def transOk (tb : List Nat) : Bool := (List.range tb.length).all fun k => Nat.blt (tb.getD k 0) (2 ^ k) && (List.range k).all fun j => !bitOf tb k j || ((tb.getD j 0 ||| tb.getD k 0) == tb.getD k 0)
structure DrawVC (P : Program) (T : Tab) (N : Nat) (ops : Array Oper) (K : St → Prop) (X : List PanicEntry → St → Prop) (st : St) : Prop where
  ex : ∃ (m : Nat) (tb : List Nat) (ann : (Nat → Value) → Nat → An), (Region.before ops).toList = tb ∧ tb.length = ops.size ∧ tableOk ops = true ∧ tailOk ops m = true ∧ transOk tb = true ∧ m ≤ ops.size ∧
    ∀ vals, dgo P T N ops tb ann vals st (fun ds => selP ds → sops P T N ops K X (ops.toList.drop m) (dfin N st ds)) 0 (ops.toList.take m) []

/-! ### That it suffices -/
def obT : Option Prop → Prop
  | some p => p
  | none => True
def pO : Option Prop → Prop
  | some p => p
  | none => True
def fO (W : World) : Option (World → Prop) → Prop
  | some F => Up F ∧ F W
  | none => True
section
variable {P : Program} {T : Tab} {cx : Cx} {e : Env} {st : St} {a : Act} {w : World} {ops : Array Oper}
theorem plainSV_ok {v : SV} {x : Value} (h : plainSV v = some x) (e : Env) : v.real e = x := by
  unfold plainSV at h
  split at h
  · cases h; rfl
  · split at h
    · rename_i hp
      cases h
      simp [SV.real, plainOf_ok e hp]
    · cases h
  · cases h
theorem evRun_ok (hT : T.Ok P) (hS : Sat cx e st a w) {o : Oper} {an : An}
    (h : ∀ u, ∃ d ob, evRun P T u an o st = some (d, ob) ∧ obT ob) :
    yieldsM P o a w (fun v w' => Later w w' ∧ ∀ d ob, evRun P T v an o st = some (d, ob) → v = d.v.real e ∧ d.v.lt st.k ∧ d.dst = o.dst ∧ pO d.p ∧ fO (hide (fun g => cx.H g ∨ Own e st.m g) w') d.f) := by
  have hok := sig_ok (o := o) hT hS
  have hpure : ∀ v, (execOp a.eval o).run P w = .ok (.value v) w → (∀ d ob, evRun P T v an o st = some (d, ob) → v = d.v.real e ∧ d.v.lt st.k ∧ d.dst = o.dst ∧ pO d.p ∧ fO (hide (fun g => cx.H g ∨ Own e st.m g) w) d.f) →
      yieldsM P o a w (fun v w' => Later w w' ∧ ∀ d ob, evRun P T v an o st = some (d, ob) → v = d.v.real e ∧ d.v.lt st.k ∧ d.dst = o.dst ∧ pO d.p ∧ fO (hide (fun g => cx.H g ∨ Own e st.m g) w') d.f) := by
    intro v hr hd
    unfold yieldsM
    rw [hr]
    exact ⟨Later.refl w, hd⟩
  obtain ⟨d0, ob0, h0, hob0⟩ := h undef
  have h' := h
  unfold evRun at h0 h' ⊢
  cases hsg : sig T st o with
  | bad => rw [hsg] at h0; cases h0
  | set i t cs => rw [hsg] at h0; cases h0
  | grow ob old E z n xs => rw [hsg] at h0; cases h0
  | pan v => rw [hsg] at h0; cases h0
  | det v =>
    rw [hsg] at h0 hok
    simp only at h0
    obtain ⟨h1, h2⟩ := hok
    unfold evRun at hpure
    rw [hsg] at hpure
    simp only at hpure ⊢
    refine hpure _ h2 fun d ob hd => ?_
    cases hb : an.b with
    | none =>
      rw [hb] at hd
      cases hd
      exact ⟨rfl, h1, rfl, trivial, trivial⟩
    | some b =>
      rw [hb] at hd h0
      simp only at hd h0
      split at hd
      · rename_i b'
        cases hd
        cases h0
        have hob0 : b' = b := hob0
        subst hob0
        exact ⟨rfl, trivial, rfl, trivial, trivial⟩
      · cases hd
  | pick ob v =>
    rw [hsg] at h0 hok
    cases h0
    obtain ⟨h1, h2⟩ := hok an.c hob0
    unfold evRun at hpure
    rw [hsg] at hpure
    simp only at hpure ⊢
    refine hpure _ h2 fun d ob hd => ?_
    cases hd
    exact ⟨rfl, h1, rfl, trivial, trivial⟩
  | new v t cs =>
    rw [hsg] at h0 hok
    simp only at h0 ⊢
    split at h0
    · rename_i i n c
      split at h0
      · rename_i vs hi hvs
        obtain rfl : i = st.k := by rw [← Nat.beq_eq]; exact hi
        obtain ⟨h1, h2, h3⟩ := hok
        have hr : reals e cs = vs := plainOf_ok e hvs
        have hv : (SV.one (.sl st.k 0 n c)).real (e.setBlk st.k w.heap.size) = .slice (some ⟨w.heap.size, 0, none⟩) n c := by
          simp only [SV.real, SA.real, Env.setBlk_self]
        rw [hv, hr] at h3
        unfold yieldsM
        rw [h3]
        refine ⟨Below.alloc (Below.refl _ _) (Nat.le_refl _) _, fun d ob hd => ?_⟩
        cases hd
        refine ⟨rfl, trivial, rfl, trivial, RowFact.up _ _, ⟨w.heap.size, 0, none⟩, rfl, fun j u hj => ?_⟩
        have hcell : (hide (fun g => cx.H g ∨ Own e st.m g) (w.alloc (.cells vs.toArray t))).heap[w.heap.size]? = some (.cells vs.toArray t) := by
          rw [hide_get]
          have : (w.alloc (.cells vs.toArray t)).heap[w.heap.size]? = some (.cells vs.toArray t) := heap_alloc_new w _
          rw [this]
          have hno : ¬ (cx.H w.heap.size ∨ Own e st.m w.heap.size) := fun h => Nat.lt_irrefl _ (hS.mem.hid _ h)
          simp [hno]
        rw [add_off, cell_of_row _ w.heap.size (0 + j) _ _ _ hcell]
        simpa using hj
      · cases h0
    · cases h0
  | ask R F =>
    rw [hsg] at h0 hok
    obtain ⟨u, w', h1, h2, h3, h4, h5⟩ := hok (fun g => cx.H g ∨ Own e st.m g) hS.mem.hid
    cases h0
    have hob0 : ∀ q, R q → q = an.nf q := hob0
    unfold yieldsM
    rw [h1]
    refine ⟨h2, fun d ob hd => ?_⟩
    simp only at hd
    cases hd
    exact ⟨hob0 u h3, trivial, rfl, h3, h4 u, h5⟩
  | call f args =>
    rw [hsg] at h0 hok
    simp only at h0 ⊢
    split at h0
    · rename_i vs hvs
      cases h0
      obtain ⟨hp, hpre, hnf⟩ := hob0
      have hargs : args.map (SV.real e) = vs := by
        have := allSome_ok (SV.real e) id (fun x y hy => plainSV_ok hy e) hvs
        simpa using this
      unfold yieldsM
      rw [hok.2 hp.ent, hargs]
      refine (hp.run w (fun g => cx.H g ∨ Own e st.m g) hS.mem.hid (hpre _ hS.mem.hidden)).mono ?_
      rintro en w' ⟨r, rfl, hR, hpost, hb⟩
      refine ⟨r, rfl, hb, fun d ob hd => ?_⟩
      cases hd
      exact ⟨hnf r hR, trivial, rfl, hR, hp.up r, hpost⟩
    · cases h0
theorem evalD_ok (hT : T.Ok P) (hS : Sat cx e st a w) {o : Oper} {an : An} (h : ∀ u, ∃ d ob, evalD P T ops u an o st = some (d, ob) ∧ obT ob) :
    if Region.wanted o (yielded ops a.tmps) = true then yieldsM P o a w (fun v w' => Later w w' ∧ ∀ d ob, evalD P T ops v an o st = some (d, ob) → v = d.v.real e ∧ d.v.lt st.k ∧ d.dst = o.dst ∧ pO d.p ∧ fO (hide (fun g => cx.H g ∨ Own e st.m g) w') d.f)
    else ∀ d ob, evalD P T ops undef an o st = some (d, ob) → undef = d.v.real e ∧ d.v.lt st.k ∧ d.dst = o.dst ∧ pO d.p ∧ fO (hide (fun g => cx.H g ∨ Own e st.m g) w) d.f := by
  have hskip : ∀ d ob, some ((⟨o.dst, .one (.v undef), none, none⟩ : Dl), (none : Option Prop)) = some (d, ob) → undef = d.v.real e ∧ d.v.lt st.k ∧ d.dst = o.dst ∧ pO d.p ∧ fO (hide (fun g => cx.H g ∨ Own e st.m g) w) d.f := by
    intro d ob hd
    cases hd
    exact ⟨rfl, trivial, rfl, trivial, trivial⟩
  unfold evalD at h ⊢
  split at h
  · rename_i hg
    rw [if_pos (wanted_none hg _)]
    exact evRun_ok hT hS h
  · rename_i g want hg
    split at h
    · obtain ⟨_, _, h1, _⟩ := h undef
      cases h1
    · rename_i t ht
      split at h
      · rename_i hb
        have hy := yielded_slot ht hS hb
        cases want
        · rw [if_neg (by simp [Region.wanted, hg, hy])]
          exact hskip
        · rw [if_pos (by simp [Region.wanted, hg, hy])]
          exact evRun_ok hT hS h
      · rename_i hb
        have hy := yielded_slot ht hS hb
        cases want
        · rw [if_pos (by simp [Region.wanted, hg, hy])]
          exact evRun_ok hT hS h
        · rw [if_neg (by simp [Region.wanted, hg, hy])]
          exact hskip
      · rename_i vs hb
        have hy : yielded ops a.tmps g = none := by
          unfold yielded
          rw [ht]
          simp only [Option.bind_some]
          rw [(hS.slots _ _ hb).2]
          rfl
        rw [if_neg (by simp [Region.wanted, hg, hy])]
        exact hskip
      · obtain ⟨_, _, h1, _⟩ := h undef
        cases h1

/-! The results of the operations, by the values that come up. -/
def dn (P : Program) (T : Tab) (N : Nat) (ops : Array Oper) (tb : List Nat) (ann : (Nat → Value) → Nat → An) (vals : Nat → Value) (st : St) (k : Nat) (ds : List (Nat × Dl)) : Dl := match ops[k]? with
  | some o => match evalD P T ops (vals k) (ann (maskV tb k vals) k) o (dstate N st (mask tb k ds) (o.looksAt ops)) with
    | some (d, _) => d
    | none => ⟨none, .one (.v undef), none, none⟩
  | none => ⟨none, .one (.v undef), none, none⟩
def dsl (P : Program) (T : Tab) (N : Nat) (ops : Array Oper) (tb : List Nat) (ann : (Nat → Value) → Nat → An) (vals : Nat → Value) (st : St) : Nat → List (Nat × Dl)
  | 0 => []
  | k + 1 => (k, dn P T N ops tb ann vals st k (dsl P T N ops tb ann vals st k)) :: dsl P T N ops tb ann vals st k
theorem dgo_all {N : Nat} {tb : List Nat} {ann : (Nat → Value) → Nat → An} {vals : Nat → Value} {F : List (Nat × Dl) → Prop} : ∀ (rest : List Oper) (k : Nat), (∀ j, j < rest.length → rest[j]? = ops[k + j]?) →
    dgo P T N ops tb ann vals st F k rest (dsl P T N ops tb ann vals st k) →
    F (dsl P T N ops tb ann vals st (k + rest.length)) ∧ ∀ j o, k ≤ j → j < k + rest.length → ops[j]? = some o → ∃ d ob, evalD P T ops (vals j) (ann (maskV tb j vals) j) o (dstate N st (mask tb j (dsl P T N ops tb ann vals st j)) (o.looksAt ops)) = some (d, ob) ∧ (selP (mask tb j (dsl P T N ops tb ann vals st j)) → obT ob)
  | [], k, _, h => ⟨h, fun j o h1 h2 => by simp at h2; omega⟩
  | o :: r, k, hi, h => by
    have ho : ops[k]? = some o := by have := hi 0 (by simp); simpa using this.symm
    unfold dgo at h
    cases hev : evalD P T ops (vals k) (ann (maskV tb k vals) k) o (dstate N st (mask tb k (dsl P T N ops tb ann vals st k)) (o.looksAt ops)) with
    | none => rw [hev] at h; exact h.elim
    | some p =>
      obtain ⟨d, ob⟩ := p
      rw [hev] at h
      simp only at h
      have hd : dn P T N ops tb ann vals st k (dsl P T N ops tb ann vals st k) = d := by
        unfold dn
        rw [ho]
        simp only [hev]
      have hnext : dgo P T N ops tb ann vals st F (k + 1) r (dsl P T N ops tb ann vals st (k + 1)) := by
        have : dsl P T N ops tb ann vals st (k + 1) = (k, d) :: dsl P T N ops tb ann vals st k := by rw [dsl, hd]
        rw [this]
        cases ob with
        | none => exact h
        | some ob => exact h.2
      have hob : selP (mask tb k (dsl P T N ops tb ann vals st k)) → obT ob := by
        cases ob with
        | none => intro _; trivial
        | some ob => exact h.1
      obtain ⟨h1, h2⟩ := dgo_all r (k + 1) (fun j hj => by
        have := hi (j + 1) (by simp; omega)
        simpa [Nat.add_assoc, Nat.add_comm 1 j] using this) hnext
      refine ⟨by simpa [Nat.add_assoc, Nat.add_comm 1] using h1, fun j o' hj1 hj2 hjo => ?_⟩
      simp only [List.length_cons] at hj2
      by_cases hjk : j = k
      · subst hjk
        rw [ho] at hjo
        cases hjo
        exact ⟨d, ob, hev, hob⟩
      · exact h2 j o' (by omega) (by omega) hjo
theorem mask_eq {N : Nat} {tb : List Nat} {ann : (Nat → Value) → Nat → An} {vals vals' : Nat → Value} {k : Nat} : ∀ n, (∀ j, j < n → bitOf tb k j = true → dn P T N ops tb ann vals st j (dsl P T N ops tb ann vals st j) = dn P T N ops tb ann vals' st j (dsl P T N ops tb ann vals' st j)) →
    mask tb k (dsl P T N ops tb ann vals st n) = mask tb k (dsl P T N ops tb ann vals' st n)
  | 0, _ => rfl
  | n + 1, h => by
    have ih := mask_eq n (fun j hj => h j (by omega))
    simp only [dsl, mask]
    split
    · rename_i hb
      rw [h n (by omega) hb, ih]
    · exact ih
theorem trans_of {tb : List Nat} (h : transOk tb = true) {k j i : Nat} (hk : k < tb.length) (hjk : j < k) (h1 : bitOf tb k j = true) (h2 : bitOf tb j i = true) : bitOf tb k i = true := by
  have h0 := List.all_eq_true.1 h k (List.mem_range.2 hk)
  rw [Bool.and_eq_true] at h0
  have h3 := List.all_eq_true.1 h0.2 j (List.mem_range.2 hjk)
  rw [h1] at h3
  simp only [Bool.not_true, Bool.false_or, beq_iff_eq] at h3
  unfold bitOf at *
  rw [← h3, Nat.testBit_or, h2]
  rfl
theorem dn_loc {N : Nat} {tb : List Nat} {ann : (Nat → Value) → Nat → An} (htr : transOk tb = true) (hlt : ∀ k j, bitOf tb k j = true → j < k) : ∀ (n k : Nat), k ≤ n → k < tb.length → ∀ vals vals' : Nat → Value, (∀ j, j = k ∨ bitOf tb k j = true → vals j = vals' j) →
    dn P T N ops tb ann vals st k (dsl P T N ops tb ann vals st k) = dn P T N ops tb ann vals' st k (dsl P T N ops tb ann vals' st k)
  | 0, k, hk, hkl, vals, vals', h => by
    obtain rfl : k = 0 := by omega
    have hm : maskV tb 0 vals = maskV tb 0 vals' := by
      funext j
      unfold maskV
      cases hb : bitOf tb 0 j with
      | true => have := hlt _ _ hb; omega
      | false => rfl
    unfold dn
    rw [hm, h 0 (.inl rfl)]
    rfl
  | n + 1, k, hk, hkl, vals, vals', h => by
    have hm : maskV tb k vals = maskV tb k vals' := by
      funext j
      unfold maskV
      cases hb : bitOf tb k j with
      | true => exact h j (.inr hb)
      | false => rfl
    have hmask := mask_eq (P := P) (T := T) (st := st) (ops := ops) (N := N) (ann := ann) (vals := vals) (vals' := vals') (tb := tb) (k := k) k (fun j hj hb => dn_loc htr hlt n j (by omega) (by omega) vals vals' (fun i hi => h i (.inr (by
      rcases hi with rfl | hi
      · exact hb
      · exact trans_of htr hkl hj hb hi))))
    unfold dn
    rw [hm, h k (.inl rfl), hmask]
end
end Go.Proofs.Sym
