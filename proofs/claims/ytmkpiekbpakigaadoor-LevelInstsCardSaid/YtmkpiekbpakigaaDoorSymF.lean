/- Symbolic walks: what a list of operations asks of the rest, and that this suffices. -/
import Derived.Test.YtmkpiekbpakigaaDoorSymE
set_option linter.unusedVariables false
set_option linter.unusedSimpArgs false
namespace Go.Proofs.Sym
open Go.RowKit Go.Proofs.Base Go.Proofs.Mono

def Begins (P : Program) (f : FuncId) : Prop := ∃ fn, P.funcs[f]? = some fn ∧ (fn.name == "runtime.NumGoroutine") = false ∧ fn.body.isNone = false

/-- A call that leaves all old memory alone: on plain arguments, by facts that last. -/
structure PCall (P : Program) (f : FuncId) (args : List Value) (pre : World → Prop) (R : Value → Prop) (post : Value → World → Prop) : Prop where
  ent : Begins P f
  up : ∀ r, Up (post r)
  run : ∀ (w : World) (H : Nat → Prop), (∀ g, H g → g < w.heap.size) → pre (hide H w) → Calls P f args.toArray w fun en w' => ∃ r, en = .returned r ∧ R r ∧ post r (hide H w') ∧ Below w.heap.size w w'

/-- A call, told by states. -/
structure CallVC (P : Program) (f : FuncId) (args : List SV) (st : St) (K : SV → St → Prop) (X : List PanicEntry → St → Prop) : Prop where
  ent : Begins P f
  run : ∀ (cx : Cx) (e : Env) (w : World), Mem cx e st.m st.k st.f w → (∀ x ∈ args, x.lt st.k) → Calls P f (args.map (SV.real e)).toArray w fun en w' =>
    ∃ e' st', e.eqTo st.k e' ∧ st.k ≤ st'.k ∧ st'.s = st.s ∧ st'.b = st.b ∧ Mem cx e' st'.m st'.k st'.f w' ∧ ((∃ v, en = .returned (v.real e') ∧ v.lt st'.k ∧ K v st') ∨ ∃ ch, en = .panicked ch ∧ X ch st')

theorem Mem.hid {cx : Cx} {e : Env} {m : List (Nat × LB)} {k : Nat} {f : List (World → Prop)} {w : World} (h : Mem cx e m k f w) : ∀ g, cx.H g ∨ Own e m g → g < w.heap.size := by
  rintro g (hg | ⟨i, hg⟩)
  · exact Nat.lt_of_lt_of_le (cx.hH g hg) h.fr.size
  · exact h.lt hg
theorem callVC_plain {P : Program} {f : FuncId} {args : List SV} {st : St} {K : SV → St → Prop} {X : List PanicEntry → St → Prop} {vals : List Value} {pre : World → Prop} {R : Value → Prop} {post : Value → World → Prop}
    (h : PCall P f vals pre R post) (ha : ∀ e, args.map (SV.real e) = vals) (hp : ∀ w, AllF st.f w → pre w) (hK : ∀ r, R r → K (.one (.v r)) { st with f := post r :: st.f }) : CallVC P f args st K X := by
  refine ⟨h.ent, fun cx e w hm hl => ?_⟩
  rw [ha]
  refine (h.run w (fun g => cx.H g ∨ Own e st.m g) hm.hid (hp _ hm.hidden)).mono ?_
  rintro en w' ⟨r, rfl, hR, hpost, hb⟩
  exact ⟨e, { st with f := post r :: st.f }, Env.eqTo.refl _ _, Nat.le_refl _, rfl, rfl, (hm.later hb).add (h.up r) hpost, .inl ⟨.one (.v r), rfl, trivial, hK r hR⟩⟩
/-- The same, where nothing lasting is told of the result. -/
theorem pcall_val {P : Program} {f : FuncId} {args : List Value} {r : Value} (pre : World → Prop) (hu : Up pre) (he : Begins P f) (h : ∀ w, pre w → Calls P f args.toArray w fun en w' => en = .returned r ∧ Below w.heap.size w w') :
    PCall P f args pre (fun u => u = r) (fun _ _ => True) :=
  ⟨he, fun _ => Up.true, fun w H hH hp => (h w (hu _ _ (hide_sub H w) hp)).mono fun en w' ⟨he, hb⟩ => ⟨r, he, rfl, trivial, hb⟩⟩

/-- A test. -/
def bsplit (b : Bool) (A B : Prop) : Prop := match b with
  | true => A
  | false => B
theorem bsplit_i {b : Bool} {A B : Prop} (h1 : b = true → A) (h2 : b = false → B) : bsplit b A B := by
  cases b
  · exact h2 rfl
  · exact h1 rfl

def sigK (P : Program) (sg : Sig) (st : St) (K : SV → St → Prop) (X : List PanicEntry → St → Prop) : Prop := match sg with
  | .bad => False
  | .det v => K v st
  | .new v t cs => K v { st with m := (st.k, .cells t cs) :: st.m, k := st.k + 1 }
  | .pick ob v => ∃ c, ob c ∧ K (v c) st
  | .set i t cs => K (.one (.v undef)) { st with m := (i, .cells t cs) :: st.m }
  | .ask R F => ∀ u, R u → K (.one (.v u)) { st with f := F u :: st.f }
  | .grow ob old E z n xs => ∃ c, ob c ∧ K (.one (.row st.k)) { st with m := (st.k, .own E z (n c) (xs c)) :: kill old st.m, k := st.k + 1 }
  | .call f args => CallVC P f args st K X
  | .pan v => X [{ v := v, recovered := false }] st

def St.put (N : Nat) (st : St) (dst : Option Nat) (v : SV) : St := match dst with
  | none => st
  | some t => match Nat.blt t N with
    | true => { st with s := (t, v) :: st.s }
    | false => st

/-- What a list of operations asks. -/
def sops (P : Program) (T : Tab) (N : Nat) (ops : Array Oper) (K : St → Prop) (X : List PanicEntry → St → Prop) : List Oper → St → Prop
  | [], st => K st
  | o :: rest, st => match o.guard with
    | none => sigK P (sig T st o) st (fun v st' => sops P T N ops K X rest (st'.put N o.dst v)) X
    | some (g, want) => match (ops[g]?).bind (·.dst) with
      | none => False
      | some t => match get t st.s with
        | some (.one (.v (.bool b))) => match want with
          | true => bsplit b (sigK P (sig T { st with s := (t, .one (.v (.bool true))) :: st.s } o) { st with s := (t, .one (.v (.bool true))) :: st.s } (fun v st' => sops P T N ops K X rest (st'.put N o.dst v)) X)
              (sops P T N ops K X rest (({ st with s := (t, .one (.v (.bool false))) :: st.s } : St).put N o.dst (.one (.v undef))))
          | false => bsplit b (sops P T N ops K X rest (({ st with s := (t, .one (.v (.bool true))) :: st.s } : St).put N o.dst (.one (.v undef))))
              (sigK P (sig T { st with s := (t, .one (.v (.bool false))) :: st.s } o) { st with s := (t, .one (.v (.bool false))) :: st.s } (fun v st' => sops P T N ops K X rest (st'.put N o.dst v)) X)
        | some (.one (.v (.tuple _))) => sops P T N ops K X rest (st.put N o.dst (.one (.v undef)))
        | _ => False

/-- What holds behind a piece of code. -/
def Post (cx : Cx) (K : Exit → St → Prop) : Exit → Act → World → Prop := fun ex a w => ∃ e st, K ex st ∧ Sat cx e st a w

section
variable {P : Program} {T : Tab} {cx : Cx} {e : Env} {st : St} {a : Act} {w : World}
theorem sat_put (hS : Sat cx e st a w) {e' : Env} {st' : St} {w' : World} {v : SV} (he : e.eqTo st.k e') (hk : st.k ≤ st'.k) (hs : st'.s = st.s) (hbs : st'.b = st.b) (hv : v.lt st'.k) (hm : Mem cx e' st'.m st'.k st'.f w') (dst : Option Nat) :
    Sat cx e' (st'.put cx.n dst v) (a.put dst (v.real e')) w' := by
  have hold : ∀ i u, get i st'.s = some u → u.lt st'.k ∧ a.tmps[i]? = some (u.real e') := by
    intro i u hi
    rw [hs] at hi
    obtain ⟨h1, h2⟩ := hS.slots i u hi
    exact ⟨SV.lt_mono hk h1, by rw [SV.real_eq he h1]; exact h2⟩
  cases dst with
  | none => exact ⟨hS.base.trans hbs.symm, hS.size, hS.defers, hold, hm⟩
  | some t =>
    have hsz : (a.put (some t) (v.real e')).tmps.size = cx.n := by simp [Act.put, hS.size]
    unfold St.put
    simp only
    split
    · rename_i hb
      have hb : t < cx.n := by simpa using hb
      refine ⟨hS.base.trans hbs.symm, hsz, hS.defers, fun i u hi => ?_, hm⟩
      rcases get_cons hi with ⟨rfl, rfl⟩ | ⟨hne, hi⟩
      · refine ⟨hv, ?_⟩
        simp only [Act.put]
        rw [Array.getElem?_setIfInBounds_self, if_pos (by rw [hS.size]; exact hb)]
      · obtain ⟨h1, h2⟩ := hold i u hi
        refine ⟨h1, ?_⟩
        simp only [Act.put]
        rw [Array.getElem?_setIfInBounds_ne (Ne.symm hne)]
        exact h2
    · rename_i hb
      have hb : ¬ t < cx.n := fun hlt => by
        rw [← Nat.blt_eq] at hlt
        rw [hlt] at hb
        cases hb
      refine ⟨hS.base.trans hbs.symm, hsz, hS.defers, fun i u hi => ?_, hm⟩
      obtain ⟨h1, h2⟩ := hold i u hi
      refine ⟨h1, ?_⟩
      have : a.tmps.setIfInBounds t (v.real e') = a.tmps := Array.setIfInBounds_eq_of_size_le (by rw [hS.size]; omega)
      simp only [Act.put, this]
      exact h2
theorem sat_same (hS : Sat cx e st a w) {t : Nat} {v v' : SV} (hg : get t st.s = some v) (hv : v'.real e = v.real e) (hl : v'.lt st.k) : Sat cx e { st with s := (t, v') :: st.s } a w := by
  refine ⟨hS.base, hS.size, hS.defers, fun i u hi => ?_, hS.mem⟩
  rcases get_cons hi with ⟨rfl, rfl⟩ | ⟨hne, hi⟩
  · exact ⟨hl, by rw [hv]; exact (hS.slots _ _ hg).2⟩
  · exact hS.slots i u hi

theorem sigK_ok (hT : T.Ok P) (hS : Sat cx e st a w) {o : Oper} {K : Exit → St → Prop} {K' : St → Prop} {next : Act → World → Prop} {Q : Exit → Act → World → Prop}
    (hQ : ∀ ch a w, Post cx K (.panic ch) a w → Q (.panic ch) a w) (hnext : ∀ e' st' a' w', K' st' → Sat cx e' st' a' w' → next a' w')
    (h : sigK P (sig T st o) st (fun v st' => K' (st'.put cx.n o.dst v)) (fun ch st' => K (.panic ch) st')) : o.wp P a w next Q := by
  have hok := sig_ok (o := o) hT hS
  unfold Oper.wp
  cases hsg : sig T st o with
  | bad => rw [hsg] at h; exact h.elim
  | det v =>
    rw [hsg] at h hok
    obtain ⟨h1, h2⟩ := hok
    rw [h2]
    exact hnext _ _ _ _ h (sat_put hS (Env.eqTo.refl _ _) (Nat.le_refl _) rfl rfl h1 hS.mem o.dst)
  | new v t cs =>
    rw [hsg] at h hok
    obtain ⟨h1, h2, h3⟩ := hok
    rw [h3]
    exact hnext _ _ _ _ h (sat_put (st' := { st with m := (st.k, .cells t cs) :: st.m, k := st.k + 1 }) hS (e.eqTo_blk _ _) (Nat.le_succ _) rfl rfl h1 (hS.mem.new t cs h2) o.dst)
  | pick ob v =>
    rw [hsg] at h hok
    obtain ⟨c, hc, hK⟩ := h
    obtain ⟨h1, h2⟩ := hok c hc
    rw [h2]
    exact hnext _ _ _ _ hK (sat_put hS (Env.eqTo.refl _ _) (Nat.le_refl _) rfl rfl h1 hS.mem o.dst)
  | set i t cs =>
    rw [hsg] at h hok
    obtain ⟨⟨cs0, h1⟩, h2, w', h3, h4⟩ := hok
    rw [h3]
    exact hnext _ _ _ _ h (sat_put (st' := { st with m := (i, .cells t cs) :: st.m }) (v := .one (.v undef)) hS (Env.eqTo.refl _ _) (Nat.le_refl _) rfl rfl trivial (hS.mem.set h1 h2 h4.blk h4.far h4.os h4.tape h4.out h4.size) o.dst)
  | ask R F =>
    rw [hsg] at h hok
    obtain ⟨u, w', h1, h2, h3, h4, h5⟩ := hok (fun g => cx.H g ∨ Own e st.m g) hS.mem.hid
    rw [h1]
    exact hnext _ _ _ _ (h u h3) (sat_put (st' := { st with f := F u :: st.f }) (v := .one (.v u)) hS (Env.eqTo.refl _ _) (Nat.le_refl _) rfl rfl trivial ((hS.mem.later h2).add (h4 u) h5) o.dst)
  | grow ob old E z n xs =>
    rw [hsg] at h hok
    obtain ⟨c, hc, hK⟩ := h
    obtain ⟨v, w', h1, h2⟩ := hok.2 c hc
    rw [h1]
    have hm := hS.mem.grow old hok.1 h2.g h2.own h2.new
    have hr : (Value.slice v.1 v.2.1 v.2.2) = (SV.one (.row st.k)).real (e.setRow st.k v) := (Env.setRow_self e st.k v).symm
    rw [hr]
    exact hnext _ _ _ _ hK (sat_put (st' := { st with m := (st.k, .own E z (n c) (xs c)) :: kill old st.m, k := st.k + 1 }) (v := .one (.row st.k)) hS (e.eqTo_row _ _) (Nat.le_succ _) rfl rfl (Nat.lt_succ_self _) hm o.dst)
  | call f args =>
    rw [hsg] at h hok
    have h : CallVC P f args st (fun v st' => K' (st'.put cx.n o.dst v)) (fun ch st' => K (.panic ch) st') := h
    rw [hok.2 h.ent]
    refine (h.run cx e w hS.mem hok.1).mono ?_
    rintro en w' ⟨e', st', he, hk, hs, hbs, hm, ⟨v, rfl, hv, hK⟩ | ⟨ch, rfl, hX⟩⟩
    · exact hnext _ _ _ _ hK (sat_put hS he hk hs hbs hv hm o.dst)
    · exact hQ _ _ _ ⟨e', st', hX, sat_put (v := .one (.v undef)) hS he hk hs hbs trivial hm none⟩
  | pan v =>
    rw [hsg] at h hok
    have hok : (execOp a.eval o).run P w = .halt (.panic v) w := hok
    rw [hok]
    exact hQ _ _ _ ⟨e, st, h, hS⟩

theorem wanted_none {o : Oper} (h : o.guard = none) (y : Nat → Option Bool) : Region.wanted o y = true := by simp [Region.wanted, h]
theorem yielded_slot {ops : Array Oper} {g t : Nat} (ht : (ops[g]?).bind (·.dst) = some t) (hS : Sat cx e st a w) {b : Bool} (hb : get t st.s = some (.one (.v (.bool b)))) : yielded ops a.tmps g = some b := by
  unfold yielded
  rw [ht]
  simp only [Option.bind_some]
  rw [(hS.slots _ _ hb).2]
  rfl

theorem sops_ok (hT : T.Ok P) {ops : Array Oper} {K : Exit → St → Prop} : ∀ (rest : List Oper) (e : Env) (st : St) (a : Act) (w : World), Sat cx e st a w →
    sops P T cx.n ops (K .normal) (fun ch st => K (.panic ch) st) rest st → wpList P ops (Post cx K) rest a w
  | [], e, st, a, w, hS, h => ⟨e, st, h, hS⟩
  | o :: rest, e, st, a, w, hS, h => by
    have hrec : ∀ e' st' a' w', sops P T cx.n ops (K .normal) (fun ch st => K (.panic ch) st) rest st' → Sat cx e' st' a' w' → wpList P ops (Post cx K) rest a' w' := fun e' st' a' w' h' hS' => sops_ok hT rest e' st' a' w' hS' h'
    refine wpList_step fun next hnext => ?_
    unfold sops at h
    split at h
    · rename_i hg
      rw [if_pos (wanted_none hg _)]
      exact sigK_ok (K := K) hT hS (fun _ _ _ h => h) (fun e' st' a' w' h1 h2 => hnext _ _ (hrec e' st' a' w' h1 h2)) h
    · rename_i g want hg
      split at h
      · exact h.elim
      · rename_i t ht
        split at h
        · rename_i b hb
          have hy := yielded_slot ht hS hb
          have hsame : ∀ b', b = b' → Sat cx e { st with s := (t, .one (.v (.bool b'))) :: st.s } a w := fun b' hbb => sat_same hS hb (by rw [hbb]) trivial
          have hskip : ∀ b', b = b' → sops P T cx.n ops (K .normal) (fun ch st => K (.panic ch) st) rest (({ st with s := (t, .one (.v (.bool b'))) :: st.s } : St).put cx.n o.dst (.one (.v undef))) → next (a.put o.dst undef) w := by
            intro b' hbb h'
            exact hnext _ _ (hrec _ _ _ _ h' (sat_put (v := .one (.v undef)) (hsame b' hbb) (Env.eqTo.refl _ _) (Nat.le_refl _) rfl rfl trivial hS.mem o.dst))
          cases want <;> cases b
          · rw [if_pos (by simp [Region.wanted, hg, hy])]
            exact sigK_ok (K := K) hT (hsame _ rfl) (fun _ _ _ h => h) (fun e' st' a' w' h1 h2 => hnext _ _ (hrec e' st' a' w' h1 h2)) h
          · rw [if_neg (by simp [Region.wanted, hg, hy])]
            exact hskip _ rfl h
          · rw [if_neg (by simp [Region.wanted, hg, hy])]
            exact hskip _ rfl h
          · rw [if_pos (by simp [Region.wanted, hg, hy])]
            exact sigK_ok (K := K) hT (hsame _ rfl) (fun _ _ _ h => h) (fun e' st' a' w' h1 h2 => hnext _ _ (hrec e' st' a' w' h1 h2)) h
        · rename_i vs hb
          have hy : yielded ops a.tmps g = none := by
            unfold yielded
            rw [ht]
            simp only [Option.bind_some]
            rw [(hS.slots _ _ hb).2]
            rfl
          rw [if_neg (by simp [Region.wanted, hg, hy])]
          exact hnext _ _ (hrec _ _ _ _ h (sat_put (v := .one (.v undef)) hS (Env.eqTo.refl _ _) (Nat.le_refl _) rfl rfl trivial hS.mem o.dst))
        · exact h.elim
end
end Go.Proofs.Sym
