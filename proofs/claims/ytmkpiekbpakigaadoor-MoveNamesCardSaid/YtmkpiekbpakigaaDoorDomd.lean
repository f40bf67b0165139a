/- What the claim needs of SymF, SymG, SymH, SymO, SymI, in one text. -/
import Derived.Test.YtmkpiekbpakigaaDoorDomc
section
set_option linter.unusedVariables false
set_option linter.unusedSimpArgs false
namespace Go.Proofs.Sym
open Go.RowKit Go.Proofs.Base Go.Proofs.Mono
def zga (P : Program) (f : FuncId) : Prop := ∃ fn, P.funcs[f]? = some fn /\ (fn.name == "runtime.NumGoroutine") = false /\ fn.body.isNone = false
structure PCall (P : Program) (f : FuncId) (args : List Value) (pre : World -> Prop) (R : Value -> Prop) (post : Value -> World -> Prop) : Prop where
 ent : zga P f
 up : ∀ r, Up (post r)
 run : ∀ (w : World) (H : Nat -> Prop), (∀ g, H g -> g < w.heap.size) -> pre (hide H w) -> Calls P f args.toArray w fun en w' => ∃ r, en = .returned r /\ R r /\ post r (hide H w') /\ Below w.heap.size w w'
def Slt (st : St) (e : Env) (st' : St) (e' : Env) : Prop := ∀ i u, get i st'.s = some u -> ∃ u0, get i st.s = some u0 /\ (u0.lt st.k -> u.lt st'.k /\ u.real e' = u0.real e)
theorem Slt.of_eq {st st' : St} {e e' : Env} (he : e.eqTo st.k e') (hk : st.k <= st'.k) (hs : st'.s = st.s) : Slt st e st' e' := by
 intro i u hi
 rw [hs] at hi
 exact ⟨u, hi, fun h => ⟨SV.lt_mono hk h, SV.real_eq he h⟩⟩
structure zce (P : Program) (f : FuncId) (args : List SV) (st : St) (K : SV -> St -> Prop) (X : List PanicEntry -> St -> Prop) : Prop where
 run : ∀ (cx : Cx) (e : Env) (w : World), Mem cx e st.m st.k st.f w -> (∀ x ∈ args, x.lt st.k) -> zga P f /\ Calls P f (args.map (SV.real e)).toArray w fun en w' =>
  ∃ e' st', e.eqTo st.k e' /\ st.k <= st'.k /\ Slt st e st' e' /\ st'.b = st.b /\ Mem cx e' st'.m st'.k st'.f w' /\ ((∃ v, en = .returned (v.real e') /\ v.lt st'.k /\ K v st') \/ ∃ ch, en = .panicked ch /\ X ch st')
theorem Mem.hid {cx : Cx} {e : Env} {m : List (Nat × LB)} {k : Nat} {f : List (World -> Prop)} {w : World} (h : Mem cx e m k f w) : ∀ g, cx.H g \/ Own e m g -> g < w.heap.size := by
 rintro g (hg | ⟨i, hg⟩)
 ·exact Nat.lt_of_lt_of_le (cx.hH g hg) h.fr.size
 ·exact h.lt hg
theorem zae {P : Program} {f : FuncId} {args : List SV} {st : St} {K : SV -> St -> Prop} {X : List PanicEntry -> St -> Prop} {vals : List Value} {pre : World -> Prop} {R : Value -> Prop} {post : Value -> World -> Prop}
  (h : PCall P f vals pre R post) (ha : ∀ e, args.map (SV.real e) = vals) (hp : ∀ w, AllF st.f w -> pre w) (hK : ∀ r, R r -> K (.one (.v r)) { st with f := post r :: st.f }) : zce P f args st K X := by
 refine ⟨fun cx e w hm hl => ⟨h.ent, ?_⟩⟩
 rw [ha]
 refine (h.run w (fun g => cx.H g \/ Own e st.m g) hm.hid (hp _ hm.hidden)).mono ?_
 rintro en w' ⟨r, rfl, hR, hpost, hb⟩
 exact ⟨e, { st with f := post r :: st.f }, Env.eqTo.refl _ _, Nat.le_refl _, Slt.of_eq (Env.eqTo.refl _ _) (Nat.le_refl _) rfl, rfl, (hm.later hb).add (h.up r) hpost, .inl ⟨.one (.v r), rfl, trivial, hK r hR⟩⟩
theorem pcall_val {P : Program} {f : FuncId} {args : List Value} {r : Value} (pre : World -> Prop) (hu : Up pre) (he : zga P f) (h : ∀ w, pre w -> Calls P f args.toArray w fun en w' => en = .returned r /\ Below w.heap.size w w') :
  PCall P f args pre (fun u => u = r) (fun _ _ => True) :=
 ⟨he, fun _ => Up.true, fun w H hH hp => (h w (hu _ _ (zik H w) hp)).mono fun en w' ⟨he, hb⟩ => ⟨r, he, rfl, trivial, hb⟩⟩
def zmt (b : Bool) (A B : Prop) : Prop := match b with
 | true => A
 | false => B
theorem zad {b : Bool} {A B : Prop} (h1 : b = true -> A) (h2 : b = false -> B) : zmt b A B := by
 cases b
 ·exact h2 rfl
 ·exact h1 rfl
def sigK (P : Program) (sg : Sig) (st : St) (K : SV -> St -> Prop) (X : List PanicEntry -> St -> Prop) : Prop := match sg with
 | .bad => False
 | .det v => K v st
 | .new v t cs => K v { st with m := (st.k, .cells t cs) :: st.m, k := st.k + 1 }
 | .pick ob v => ∃ c, ob c /\ K (v c) st
 | .set i t cs => K (.one (.v undef)) { st with m := (i, .cells t cs) :: st.m }
 | .setr ob i E z n xs => ob /\ K (.one (.v undef)) { st with m := (i, .own E z n xs) :: st.m }
 | .ask R F => ∀ u, R u -> K (.one (.v u)) { st with f := F u :: st.f }
 | .grow ob old E z n xs => ∃ c, ob c /\ K (.one (.row st.k)) { st with m := (st.k, .own E z (n c) (xs c)) :: kill old st.m, k := st.k + 1 }
 | .call f args => zce P f args st K X
 | .pan v => X [{ v := v, recovered := false }] st
def St.put (N : Nat) (st : St) (dst : Option Nat) (v : SV) : St := match dst with
 | none => st
 | some t => match Nat.blt t N with
  | true => { st with s := (t, v) :: st.s }
  | false => st
def sops (P : Program) (T : Tab) (N : Nat) (ops : Array Oper) (K : St -> Prop) (X : List PanicEntry -> St -> Prop) : List Oper -> St -> Prop
 | [], st => K st
 | o :: rest, st => match o.guard with
  | none => sigK P (sig T st o) st (fun v st' => sops P T N ops K X rest (st'.put N o.dst v)) X
  | some (g, want) => match (ops[g]?).bind (·.dst) with
   | none => False
   | some t => match get t st.s with
    | some (.one (.v (.bool b))) => match want with
     | true => zmt b (sigK P (sig T { st with s := (t, .one (.v (.bool true))) :: st.s } o) { st with s := (t, .one (.v (.bool true))) :: st.s } (fun v st' => sops P T N ops K X rest (st'.put N o.dst v)) X)
       (sops P T N ops K X rest (({ st with s := (t, .one (.v (.bool false))) :: st.s } : St).put N o.dst (.one (.v undef))))
     | false => zmt b (sops P T N ops K X rest (({ st with s := (t, .one (.v (.bool true))) :: st.s } : St).put N o.dst (.one (.v undef))))
       (sigK P (sig T { st with s := (t, .one (.v (.bool false))) :: st.s } o) { st with s := (t, .one (.v (.bool false))) :: st.s } (fun v st' => sops P T N ops K X rest (st'.put N o.dst v)) X)
    | some (.one (.v (.tuple _))) => sops P T N ops K X rest (st.put N o.dst (.one (.v undef)))
    | _ => False
def Post (cx : Cx) (K : Exit -> St -> Prop) : Exit -> Act -> World -> Prop := fun ex a w => ∃ e st, K ex st /\ Sat cx e st a w
section
variable {P : Program} {T : Tab} {cx : Cx} {e : Env} {st : St} {a : Act} {w : World}
theorem zd3 (hS : Sat cx e st a w) {e' : Env} {st' : St} {w' : World} {v : SV} (hs : Slt st e st' e') (hbs : st'.b = st.b) (hv : v.lt st'.k) (hm : Mem cx e' st'.m st'.k st'.f w') (dst : Option Nat) :
  Sat cx e' (st'.put cx.n dst v) (a.put dst (v.real e')) w' := by
 have hold : ∀ i u, get i st'.s = some u -> u.lt st'.k /\ a.tmps[i]? = some (u.real e') := by
  intro i u hi
  obtain ⟨u0, h0, h3⟩ := hs i u hi
  obtain ⟨h1, h2⟩ := hS.slots i u0 h0
  obtain ⟨h4, h5⟩ := h3 h1
  exact ⟨h4, by rw [h5]; exact h2⟩
 cases dst with
 | none => exact ⟨hS.base.trans hbs.symm, hS.size, hS.defers, hold, hm⟩
 | some t =>
  have hsz : (a.put (some t) (v.real e')).tmps.size = cx.n := by simp [Act.put, hS.size]
  unfold St.put
  simp only
  split
  ·rename_i hb
   have hb : t < cx.n := by simpa using hb
   refine ⟨hS.base.trans hbs.symm, hsz, hS.defers, fun i u hi => ?_, hm⟩
   rcases zah hi with ⟨rfl, rfl⟩ | ⟨hne, hi⟩
   ·refine ⟨hv, ?_⟩
    simp only [Act.put]
    rw [Array.getElem?_setIfInBounds_self, if_pos (by rw [hS.size]; exact hb)]
   ·obtain ⟨h1, h2⟩ := hold i u hi
    refine ⟨h1, ?_⟩
    simp only [Act.put]
    rw [Array.getElem?_setIfInBounds_ne (Ne.symm hne)]
    exact h2
  ·rename_i hb
   have hb : ¬ t < cx.n := fun hlt => by
    rw [<- Nat.blt_eq] at hlt
    rw [hlt] at hb
    cases hb
   refine ⟨hS.base.trans hbs.symm, hsz, hS.defers, fun i u hi => ?_, hm⟩
   obtain ⟨h1, h2⟩ := hold i u hi
   refine ⟨h1, ?_⟩
   have : a.tmps.setIfInBounds t (v.real e') = a.tmps := Array.setIfInBounds_eq_of_size_le (by rw [hS.size]; omega)
   simp only [Act.put, this]
   exact h2
theorem zbq (hS : Sat cx e st a w) {e' : Env} {st' : St} {w' : World} {v : SV} (he : e.eqTo st.k e') (hk : st.k <= st'.k) (hs : st'.s = st.s) (hbs : st'.b = st.b) (hv : v.lt st'.k) (hm : Mem cx e' st'.m st'.k st'.f w') (dst : Option Nat) :
  Sat cx e' (st'.put cx.n dst v) (a.put dst (v.real e')) w' := zd3 hS (Slt.of_eq he hk hs) hbs hv hm dst
theorem zdi (hS : Sat cx e st a w) {t : Nat} {v v' : SV} (hg : get t st.s = some v) (hv : v'.real e = v.real e) (hl : v'.lt st.k) : Sat cx e { st with s := (t, v') :: st.s } a w := by
 refine ⟨hS.base, hS.size, hS.defers, fun i u hi => ?_, hS.mem⟩
 rcases zah hi with ⟨rfl, rfl⟩ | ⟨hne, hi⟩
 ·exact ⟨hl, by rw [hv]; exact (hS.slots _ _ hg).2⟩
 ·exact hS.slots i u hi
theorem zhp (hT : T.Ok P) (hS : Sat cx e st a w) {o : Oper} {K : Exit -> St -> Prop} {K' : St -> Prop} {next : Act -> World -> Prop} {Q : Exit -> Act -> World -> Prop}
  (hQ : ∀ ch a w, Post cx K (.panic ch) a w -> Q (.panic ch) a w) (hnext : ∀ e' st' a' w', K' st' -> Sat cx e' st' a' w' -> next a' w')
  (h : sigK P (sig T st o) st (fun v st' => K' (st'.put cx.n o.dst v)) (fun ch st' => K (.panic ch) st')) : o.wp P a w next Q := by
 have hok := zfc (o := o) hT hS
 unfold Oper.wp
 cases hsg : sig T st o with
 | bad => rw [hsg] at h; exact h.elim
 | det v =>
  rw [hsg] at h hok
  obtain ⟨h1, h2⟩ := hok
  rw [h2]
  exact hnext _ _ _ _ h (zbq hS (Env.eqTo.refl _ _) (Nat.le_refl _) rfl rfl h1 hS.mem o.dst)
 | new v t cs =>
  rw [hsg] at h hok
  obtain ⟨h1, h2, h3⟩ := hok
  rw [h3]
  exact hnext _ _ _ _ h (zbq (st' := { st with m := (st.k, .cells t cs) :: st.m, k := st.k + 1 }) hS (e.eqTo_blk _ _) (Nat.le_succ _) rfl rfl h1 (hS.mem.new t cs h2) o.dst)
 | pick ob v =>
  rw [hsg] at h hok
  obtain ⟨c, hc, hK⟩ := h
  obtain ⟨h1, h2⟩ := hok c hc
  rw [h2]
  exact hnext _ _ _ _ hK (zbq hS (Env.eqTo.refl _ _) (Nat.le_refl _) rfl rfl h1 hS.mem o.dst)
 | set i t cs =>
  rw [hsg] at h hok
  obtain ⟨⟨cs0, h1⟩, h2, w', h3, h4⟩ := hok
  rw [h3]
  exact hnext _ _ _ _ h (zbq (st' := { st with m := (i, .cells t cs) :: st.m }) (v := .one (.v undef)) hS (Env.eqTo.refl _ _) (Nat.le_refl _) rfl rfl trivial (hS.mem.set h1 h2 h4.blk h4.far h4.os h4.tape h4.out h4.size) o.dst)
 | setr ob i E z n xs =>
  rw [hsg] at h hok
  obtain ⟨hob, hK⟩ := h
  obtain ⟨⟨xs0, h1⟩, w', h3, h4⟩ := hok hob
  rw [h3]
  exact hnext _ _ _ _ hK (zbq (st' := { st with m := (i, .own E z n xs) :: st.m }) (v := .one (.v undef)) hS (Env.eqTo.refl _ _) (Nat.le_refl _) rfl rfl trivial (hS.mem.setr h1 h4.own h4.far h4.os h4.tape h4.out h4.size) o.dst)
 | ask R F =>
  rw [hsg] at h hok
  obtain ⟨u, w', h1, h2, h3, h4, h5⟩ := hok (fun g => cx.H g \/ Own e st.m g) hS.mem.hid
  rw [h1]
  exact hnext _ _ _ _ (h u h3) (zbq (st' := { st with f := F u :: st.f }) (v := .one (.v u)) hS (Env.eqTo.refl _ _) (Nat.le_refl _) rfl rfl trivial ((hS.mem.later h2).add (h4 u) h5) o.dst)
 | grow ob old E z n xs =>
  rw [hsg] at h hok
  obtain ⟨c, hc, hK⟩ := h
  obtain ⟨v, w', h1, h2⟩ := hok.2 c hc
  rw [h1]
  have hm := hS.mem.grow old hok.1 h2.g h2.own h2.new
  have hr : (Value.slice v.1 v.2.1 v.2.2) = (SV.one (.row st.k)).real (e.setRow st.k v) := (Env.setRow_self e st.k v).symm
  rw [hr]
  exact hnext _ _ _ _ hK (zbq (st' := { st with m := (st.k, .own E z (n c) (xs c)) :: kill old st.m, k := st.k + 1 }) (v := .one (.row st.k)) hS (e.eqTo_row _ _) (Nat.le_succ _) rfl rfl (Nat.lt_succ_self _) hm o.dst)
 | call f args =>
  rw [hsg] at h hok
  have h : zce P f args st (fun v st' => K' (st'.put cx.n o.dst v)) (fun ch st' => K (.panic ch) st') := h
  obtain ⟨hent, hrun⟩ := h.run cx e w hS.mem hok.1
  rw [hok.2 hent]
  refine hrun.mono ?_
  rintro en w' ⟨e', st', he, hk, hs, hbs, hm, ⟨v, rfl, hv, hK⟩ | ⟨ch, rfl, hX⟩⟩
  ·exact hnext _ _ _ _ hK (zd3 hS hs hbs hv hm o.dst)
  ·exact hQ _ _ _ ⟨e', st', hX, zd3 (v := .one (.v undef)) hS hs hbs trivial hm none⟩
 | pan v =>
  rw [hsg] at h hok
  have hok : (execOp a.eval o).run P w = .halt (.panic v) w := hok
  rw [hok]
  exact hQ _ _ _ ⟨e, st, h, hS⟩
theorem zaz {o : Oper} (h : o.guard = none) (y : Nat -> Option Bool) : Region.wanted o y = true := by simp [Region.wanted, h]
theorem zcg {ops : Array Oper} {g t : Nat} (ht : (ops[g]?).bind (·.dst) = some t) (hS : Sat cx e st a w) {b : Bool} (hb : get t st.s = some (.one (.v (.bool b)))) : yielded ops a.tmps g = some b := by
 unfold yielded
 rw [ht]
 simp only [Option.bind_some]
 rw [(hS.slots _ _ hb).2]
 rfl
theorem znu (hT : T.Ok P) {ops : Array Oper} {K : Exit -> St -> Prop} : ∀ (rest : List Oper) (e : Env) (st : St) (a : Act) (w : World), Sat cx e st a w ->
  sops P T cx.n ops (K .normal) (fun ch st => K (.panic ch) st) rest st -> wpList P ops (Post cx K) rest a w
 | [], e, st, a, w, hS, h => ⟨e, st, h, hS⟩
 | o :: rest, e, st, a, w, hS, h => by
  have hrec : ∀ e' st' a' w', sops P T cx.n ops (K .normal) (fun ch st => K (.panic ch) st) rest st' -> Sat cx e' st' a' w' -> wpList P ops (Post cx K) rest a' w' := fun e' st' a' w' h' hS' => znu hT rest e' st' a' w' hS' h'
  refine wpList_step fun next hnext => ?_
  unfold sops at h
  split at h
  ·rename_i hg
   rw [if_pos (zaz hg _)]
   exact zhp (K := K) hT hS (fun _ _ _ h => h) (fun e' st' a' w' h1 h2 => hnext _ _ (hrec e' st' a' w' h1 h2)) h
  ·rename_i g want hg
   split at h
   ·exact h.elim
   ·rename_i t ht
    split at h
    ·rename_i b hb
     have hy := zcg ht hS hb
     have hsame : ∀ b', b = b' -> Sat cx e { st with s := (t, .one (.v (.bool b'))) :: st.s } a w := fun b' hbb => zdi hS hb (by rw [hbb]) trivial
     have hskip : ∀ b', b = b' -> sops P T cx.n ops (K .normal) (fun ch st => K (.panic ch) st) rest (({ st with s := (t, .one (.v (.bool b'))) :: st.s } : St).put cx.n o.dst (.one (.v undef))) -> next (a.put o.dst undef) w := by
      intro b' hbb h'
      exact hnext _ _ (hrec _ _ _ _ h' (zbq (v := .one (.v undef)) (hsame b' hbb) (Env.eqTo.refl _ _) (Nat.le_refl _) rfl rfl trivial hS.mem o.dst))
     cases want <;> cases b
     ·rw [if_pos (by simp [Region.wanted, hg, hy])]
      exact zhp (K := K) hT (hsame _ rfl) (fun _ _ _ h => h) (fun e' st' a' w' h1 h2 => hnext _ _ (hrec e' st' a' w' h1 h2)) h
     ·rw [if_neg (by simp [Region.wanted, hg, hy])]
      exact hskip _ rfl h
     ·rw [if_neg (by simp [Region.wanted, hg, hy])]
      exact hskip _ rfl h
     ·rw [if_pos (by simp [Region.wanted, hg, hy])]
      exact zhp (K := K) hT (hsame _ rfl) (fun _ _ _ h => h) (fun e' st' a' w' h1 h2 => hnext _ _ (hrec e' st' a' w' h1 h2)) h
    ·rename_i vs hb
     have hy : yielded ops a.tmps g = none := by
      unfold yielded
      rw [ht]
      simp only [Option.bind_some]
      rw [(hS.slots _ _ hb).2]
      rfl
     rw [if_neg (by simp [Region.wanted, hg, hy])]
     exact hnext _ _ (hrec _ _ _ _ h (zbq (v := .one (.v undef)) hS (Env.eqTo.refl _ _) (Nat.le_refl _) rfl rfl trivial hS.mem o.dst))
    ·exact h.elim
end
end Go.Proofs.Sym
end
section
set_option linter.unusedVariables false
set_option linter.unusedSimpArgs false
namespace Go.Proofs.Sym
open Go.RowKit Go.Proofs.Base Go.Proofs.Mono
def upd (vals : Nat -> Value) (k : Nat) (v : Value) : Nat -> Value := fun j => if j = k then v else vals j
section
variable {P : Program} {ops : Array Oper}
theorem zta (T : zfg ops) {Ext : World -> World -> Prop} (hrf : ∀ a, Ext a a) (C : World -> Prop) (hC : ∀ {w w'}, Ext w w' -> C w -> C w') (S : Nat -> (Nat -> Value) -> World -> Prop)
  (hS : ∀ {k vals w w'}, Ext w w' -> S k vals w -> S k vals w') (hloc : ∀ {k vals vals' w}, k < ops.size -> (∀ j, j < ops.size -> j = k \/ bef ops k j = true -> vals j = vals' j) -> S k vals w -> S k vals' w)
  (a0 : Act) (Q : Exit -> Act -> World -> Prop) (m : Nat) (hm : m <= ops.size) (htail : ∀ k, m <= k -> k < ops.size -> ∀ j, j < k -> bef ops k j = true)
  (hstep : ∀ k vals w o, k < m -> ops[k]? = some o -> C w -> (∀ j, j < ops.size -> bef ops k j = true -> S j vals w) ->
   if Region.wanted o (yielded ops (zao ops a0 vals k).tmps) = true then za2 P o (zao ops a0 vals k) w (fun v w' => Ext w w' /\ S k (upd vals k v) w') else S k (upd vals k undef) w)
  (hend : ∀ (fuel : Nat) (listed : Array Bool) (vals : Nat -> Value) (a : Act) (w : World), listed.size = ops.size -> listed.toList.count false <= fuel -> (∀ j, j < ops.size -> listed.getD j false = true -> j < m) -> (∀ j, j < m -> listed.getD j false = true) ->
   Mono.At ops a0 vals listed a -> C w -> (∀ j, j < m -> S j vals w) -> wpAny P .any ops Q fuel listed a w) :
  ∀ (fuel : Nat) (listed : Array Bool) (vals : Nat -> Value) (a : Act) (w : World), listed.size = ops.size -> listed.toList.count false <= fuel -> (∀ j, j < ops.size -> listed.getD j false = true -> j < m) ->
   (∀ k, k < ops.size -> listed.getD k false = true -> ∀ j, j < ops.size -> bef ops k j = true -> listed.getD j false = true) -> Mono.At ops a0 vals listed a -> C w -> (∀ j, j < ops.size -> listed.getD j false = true -> S j vals w) ->
   wpAny P .any ops Q fuel listed a w := by
 have low : ∀ (listed : Array Bool), listed.size = ops.size -> (¬ ∀ k, k < m -> listed.getD k false = true) -> Region.ready .any ops listed ≠ [] /\ ∃ k, k < m /\ listed.getD k false = false := by
  intro listed hsz hno
  have hex : ∃ k, k < m /\ listed.getD k false = false := by
   refine Classical.byContradiction (fun h => hno (fun k hk => ?_))
   cases hl : listed.getD k false with
   | true => rfl
   | false => exact absurd ⟨k, hk, hl⟩ h
  refine ⟨?_, hex⟩
  obtain ⟨k0, hk0⟩ := hex
  have key : ∀ k, k < m /\ listed.getD k false = false -> ∃ k, k < m /\ listed.getD k false = false /\ ∀ j, j < k -> listed.getD j false = true := by
   intro k
   induction k using Nat.strongRecOn with
   | _ k ih =>
    intro hk
    by_cases h : ∀ j, j < k -> listed.getD j false = true
    ·exact ⟨k, hk.1, hk.2, h⟩
    ·have : ∃ j, j < k /\ listed.getD j false = false := by
      refine Classical.byContradiction (fun h2 => h (fun j hj => ?_))
      cases hl : listed.getD j false with
      | true => rfl
      | false => exact absurd ⟨j, hj, hl⟩ h2
     obtain ⟨j, hj, hl⟩ := this
     exact ih j hj ⟨by omega, hl⟩
  obtain ⟨k, hk, hu, hlow⟩ := key k0 hk0
  have hkn : k < ops.size := by omega
  refine List.ne_nil_of_mem (a := k) (mem_ready.2 ⟨?_, ops[k], Array.getElem?_eq_getElem hkn, fun e he hbd => hlow e.on (T.back (Array.getElem?_eq_getElem hkn) e he hbd)⟩)
  simpa [Array.getD_eq_getD_getElem?, hsz, hkn] using hu
 intro fuel
 induction fuel with
 | zero =>
  intro listed vals a w hsz hcnt hpre hcl hA hCw hSw
  have hall : ∀ k, k < m -> listed.getD k false = true := fun k hk => by
   cases hu : listed.getD k false with
   | true => rfl
   | false =>
    exfalso
    have hkn : k < ops.size := by omega
    have : false ∈ listed.toList := by
     have h2 : listed[k]'(by omega) = false := by simpa [Array.getD_eq_getD_getElem?, hsz, hkn] using hu
     rw [<- h2]
     exact Array.getElem_mem_toList (h := by omega)
    have := List.count_pos_iff.2 this
    omega
  exact hend 0 listed vals a w hsz hcnt hpre hall hA hCw (fun j hj => hSw j (by omega) (hall j hj))
 | succ fuel ih =>
  intro listed vals a w hsz hcnt hpre hcl hA hCw hSw
  by_cases hdone : ∀ k, k < m -> listed.getD k false = true
  ·exact hend _ listed vals a w hsz hcnt hpre hdone hA hCw (fun j hj => hSw j (by omega) (hdone j hj))
  obtain ⟨hr1, k1, hk1, hu1⟩ := low listed hsz hdone
  refine ⟨fun h => absurd h hr1, fun i hi => ?_⟩
  obtain ⟨h1, o, ho, hall⟩ := mem_ready.1 hi
  have hlt : i < ops.size := (Array.getElem?_eq_some_iff.1 ho).1
  have hun : listed.getD i false = false := by
   simpa [Array.getD_eq_getD_getElem?, hsz, hlt] using h1
  have hb : ∀ j, j < ops.size -> bef ops i j = true -> listed.getD j false = true := by
   intro j hj hbj
   obtain ⟨_, e, he, hbd, h2⟩ := T.close ho hj hbj
   have hle := hall e he hbd
   rcases h2 with rfl | h2
   ·exact hle
   ·exact hcl e.on (Nat.lt_trans (T.back ho e he hbd) hlt) hle j hj h2
  have hc : ∀ j, j < ops.size -> bef ops j i = true -> listed.getD j false = false := by
   intro j hj hbj
   cases hlj : listed.getD j false with
   | false => rfl
   | true =>
    have := hcl j hj hlj i hlt hbj
    rw [hun] at this
    cases this
  have hlook := fun t (ht : t ∈ o.looksAt ops) => zhl T ho hA hun hb hc ht
  have him : i < m := by
   refine Classical.byContradiction (fun hge => ?_)
   have := hb k1 (by omega) (htail i (by omega) hlt k1 (by omega))
   rw [hu1] at this
   cases this
  have hst := hstep i vals w o him ho hCw (fun j hj hbj => hSw j hj (hb j hj hbj))
  have next : ∀ v w', Ext w w' -> S i (upd vals i v) w' -> wpAny P .any ops Q fuel (listed.setIfInBounds i true) (a.put (zbk ops i) v) w' := by
   intro v w' he hs
   have hl : ∀ j d, (listed.setIfInBounds i true).getD j d = if j = i then true else listed.getD j d := by
    intro j d
    by_cases h : j = i
    ·subst h
     rw [if_pos rfl]
     simp [Array.getD_eq_getD_getElem?, hsz, hlt]
    ·rw [if_neg h, getD_set_ne d (Ne.symm h)]
   refine ih _ (upd vals i v) _ w' (by simpa using hsz) ?_ (fun j hj hlj => ?_) ?_ (zp6 T hlt hsz hun hA v) (hC he hCw) ?_
   ·have h2 : listed[i]'(by omega) = false := by simpa [Array.getD_eq_getD_getElem?, hsz, hlt] using h1
    have h3 : (listed.setIfInBounds i true).toList.count false + 1 = listed.toList.count false := by
     rw [Array.toList_setIfInBounds, List.count_set (by simpa using (by omega : i < listed.size))]
     have : listed.toList[i]'(by simpa using (by omega : i < listed.size)) = false := by simpa using h2
     have hp : 0 < listed.toList.count false := List.count_pos_iff.2 (by rw [<- h2]; exact Array.getElem_mem_toList (h := by omega))
     rw [this]
     simp only [beq_self_eq_true, if_true]
     have h5 : (true == false) = false := rfl
     rw [h5]
     simp only [Bool.false_eq_true, if_false]
     omega
    omega
   ·rw [hl] at hlj
    by_cases hji : j = i
    ·omega
    ·rw [if_neg hji] at hlj
     exact hpre j hj hlj
   ·intro k hk hlk j hj hbj
    rw [hl] at hlk ⊢
    by_cases hji : j = i
    ·rw [if_pos hji]
    ·rw [if_neg hji]
     by_cases hki : k = i
     ·subst hki; exact hb j hj hbj
     ·rw [if_neg hki] at hlk
      exact hcl k hk hlk j hj hbj
   ·intro j hj hlj
    by_cases hji : j = i
    ·subst hji
     exact hs
    ·rw [hl, if_neg hji] at hlj
     refine hloc hj (fun q hq hqj => ?_) (hS he (hSw j hj hlj))
     have hne : q ≠ i := by
      rintro rfl
      rcases hqj with h5 | h5
      ·exact hji h5.symm
      ·have := hcl j hj hlj q hq h5
       rw [hun] at this
       cases this
     simp [upd, hne]
  unfold wpOp
  rw [ho]
  simp only
  rw [zdr o hlook]
  have hd : o.dst = zbk ops i := by simp [zbk, ho]
  by_cases hw : Region.wanted o (yielded ops (zao ops a0 vals i).tmps) = true
  ·rw [if_pos hw] at hst ⊢
   refine .inl (zev (R := fun v w' => Ext w w' /\ S i (upd vals i v) w') ?_ (fun v w' hR => by rw [hd]; exact next v w' hR.1 hR.2))
   unfold za2 at hst ⊢
   rwa [zc7 o (Region.noSelect_spec T.sel i o · · ho) hlook]
  ·rw [if_neg hw] at hst ⊢
   rw [hd]
   exact next undef w (hrf w) hst
end
structure An where
 b : Option Bool := none
 c : Ch := {}
 pre : World -> Prop := fun _ => True
 R : Value -> Prop := fun _ => True
 post : Value -> World -> Prop := fun _ _ => True
 nf : Value -> Value := id
structure Dl where
 dst : Option Nat
 v : SV
 p : Option Prop
 f : Option (World -> Prop)
def zom : SV -> Option Value
 | .one (.v x) => some x
 | .agg xs => match zcp xs with
  | some vs => some (.agg vs.toArray)
  | none => none
 | _ => none
def zsw : Value -> Option Addr
 | .slice a _ _ => a
 | _ => none
def zhu (A : Option Addr) (vs : List Value) (w : World) : Prop := ∃ a, A = some a /\ ∀ j u, vs[j]? = some u -> w.cell? (a.add j) = some u
theorem zhu.up (A : Option Addr) (vs : List Value) : Up (zhu A vs) := by
 rintro w w' h ⟨a, ha, hc⟩
 exact ⟨a, ha, fun j u hj => h.cell (hc j u hj)⟩
def zay (tb : List Nat) (k j : Nat) : Bool := Nat.testBit (tb.getD k 0) j
def zf6 (tb : List Nat) (k : Nat) (vals : Nat -> Value) (j : Nat) : Value := match zay tb k j with
 | true => vals j
 | false => undef
def mask (tb : List Nat) (k : Nat) : List (Nat × Dl) -> List (Nat × Dl)
 | [] => []
 | (j, d) :: r => match zay tb k j with
  | true => (j, d) :: mask tb k r
  | false => mask tb k r
def selS (N : Nat) : List (Nat × Dl) -> List (Nat × SV)
 | [] => []
 | (_, d) :: r => match d.dst with
  | none => selS N r
  | some t => match Nat.blt t N with
   | true => (t, d.v) :: selS N r
   | false => selS N r
def selF : List (Nat × Dl) -> List (World -> Prop)
 | [] => []
 | (_, d) :: r => match d.f with
  | some F => F :: selF r
  | none => selF r
def selP : List (Nat × Dl) -> Prop
 | [] => True
 | (_, d) :: r => match d.p with
  | some p => p /\ selP r
  | none => selP r
def hasN (x : Nat) : List Nat -> Bool
 | [] => false
 | y :: r => match Nat.beq x y with
  | true => true
  | false => hasN x r
def zo8 {α : Type _} (l : List Nat) : List (Nat × α) -> List (Nat × α)
 | [] => []
 | (i, v) :: r => match hasN i l with
  | true => (i, v) :: zo8 l r
  | false => zo8 l r
def zhy (N : Nat) (st : St) (sel : List (Nat × Dl)) (looks : List Nat) : St := { s := zo8 looks (selS N sel ++ st.s), m := st.m, k := st.k, f := selF sel ++ st.f, b := st.b }
def dfin (N : Nat) (st : St) (ds : List (Nat × Dl)) : St := { s := selS N ds ++ st.s, m := st.m, k := st.k, f := selF ds ++ st.f, b := st.b }
def zjw (P : Program) (T : Tab) (u : Value) (an : An) (o : Oper) (st : St) : Option (Dl × Option Prop) := match sig T st o with
 | .det v => match an.b with
  | none => some (⟨o.dst, v, none, none⟩, none)
  | some b => match v with
   | .one (.v (.bool b')) => some (⟨o.dst, .one (.v (.bool b)), none, none⟩, some (b' = b))
   | _ => none
 | .pick ob v => some (⟨o.dst, v an.c, none, none⟩, some (ob an.c))
 | .new v _ cs => match v with
  | .one (.sl i 0 n c) => match Nat.beq i st.k, zcp cs with
   | true, some vs => some (⟨o.dst, .one (.v (.slice (zsw u) n c)), none, some (zhu (zsw u) vs)⟩, none)
   | _, _ => none
  | _ => none
 | .ask R F => some (⟨o.dst, .one (.v (an.nf u)), some (R u), some (F u)⟩, some (∀ q, R q -> q = an.nf q))
 | .call f args => match za1 zom args with
  | some vs => some (⟨o.dst, .one (.v (an.nf u)), some (an.R u), some (an.post u)⟩, some (PCall P f vs an.pre an.R an.post /\ (∀ w, AllF st.f w -> an.pre w) /\ ∀ q, an.R q -> q = an.nf q))
  | none => none
 | _ => none
def zim (P : Program) (T : Tab) (ops : Array Oper) (u : Value) (an : An) (o : Oper) (st : St) : Option (Dl × Option Prop) := match o.guard with
 | none => zjw P T u an o st
 | some (g, want) => match (ops[g]?).bind (·.dst) with
  | none => none
  | some t => match get t st.s with
   | some (.one (.v (.bool true))) => match want with
    | true => zjw P T u an o st
    | false => some (⟨o.dst, .one (.v undef), none, none⟩, none)
   | some (.one (.v (.bool false))) => match want with
    | false => zjw P T u an o st
    | true => some (⟨o.dst, .one (.v undef), none, none⟩, none)
   | some (.one (.v (.tuple _))) => some (⟨o.dst, .one (.v undef), none, none⟩, none)
   | _ => none
def andO (ob : Option Prop) (p q : Prop) : Prop := match ob with
 | none => q
 | some ob => (p -> ob) /\ q
def dgo (P : Program) (T : Tab) (N : Nat) (ops : Array Oper) (tb : List Nat) (ann : (Nat -> Value) -> Nat -> An) (vals : Nat -> Value) (st : St) (F : List (Nat × Dl) -> Prop) : Nat -> List Oper -> List (Nat × Dl) -> Prop
 | _, [], ds => F ds
 | k, o :: r, ds => match zim P T ops (vals k) (ann (zf6 tb k vals) k) o (zhy N st (mask tb k ds) (o.looksAt ops)) with
  | none => False
  | some (d, ob) => andO ob (selP (mask tb k ds)) (dgo P T N ops tb ann vals st F (k + 1) r ((k, d) :: ds))
def zgf (tb : List Nat) : Bool := (List.range tb.length).all fun k => Nat.blt (tb.getD k 0) (2 ^ k) && (List.range k).all fun j => !zay tb k j || ((tb.getD j 0 ||| tb.getD k 0) == tb.getD k 0)
structure zx2 (P : Program) (T : Tab) (N : Nat) (ops : Array Oper) (K : St -> Prop) (X : List PanicEntry -> St -> Prop) (st : St) : Prop where
 ex : ∃ (m : Nat) (tb : List Nat) (ann : (Nat -> Value) -> Nat -> An), (Region.before ops).toList = tb /\ tb.length = ops.size /\ zfa ops = true /\ zxi ops m = true /\ zgf tb = true /\ m <= ops.size /\
  ∀ vals, dgo P T N ops tb ann vals st (fun ds => selP ds -> sops P T N ops K X (ops.toList.drop m) (dfin N st ds)) 0 (ops.toList.take m) []
def obT : Option Prop -> Prop
 | some p => p
 | none => True
def pO : Option Prop -> Prop
 | some p => p
 | none => True
def fO (W : World) : Option (World -> Prop) -> Prop
 | some F => Up F /\ F W
 | none => True
section
variable {P : Program} {T : Tab} {cx : Cx} {e : Env} {st : St} {a : Act} {w : World} {ops : Array Oper}
theorem zrg {v : SV} {x : Value} (h : zom v = some x) (e : Env) : v.real e = x := by
 unfold zom at h
 split at h
 ·cases h; rfl
 ·split at h
  ·rename_i hp
   cases h
   simp [SV.real, zbn e hp]
  ·cases h
 ·cases h
theorem zk5 (hT : T.Ok P) (hS : Sat cx e st a w) {o : Oper} {an : An}
  (h : ∀ u, ∃ d ob, zjw P T u an o st = some (d, ob) /\ obT ob) :
  za2 P o a w (fun v w' => zbr w w' /\ ∀ d ob, zjw P T v an o st = some (d, ob) -> v = d.v.real e /\ d.v.lt st.k /\ d.dst = o.dst /\ pO d.p /\ fO (hide (fun g => cx.H g \/ Own e st.m g) w') d.f) := by
 have hok := zfc (o := o) hT hS
 have hpure : ∀ v, (execOp a.eval o).run P w = .ok (.value v) w -> (∀ d ob, zjw P T v an o st = some (d, ob) -> v = d.v.real e /\ d.v.lt st.k /\ d.dst = o.dst /\ pO d.p /\ fO (hide (fun g => cx.H g \/ Own e st.m g) w) d.f) ->
   za2 P o a w (fun v w' => zbr w w' /\ ∀ d ob, zjw P T v an o st = some (d, ob) -> v = d.v.real e /\ d.v.lt st.k /\ d.dst = o.dst /\ pO d.p /\ fO (hide (fun g => cx.H g \/ Own e st.m g) w') d.f) := by
  intro v hr hd
  unfold za2
  rw [hr]
  exact ⟨zbr.refl w, hd⟩
 obtain ⟨d0, ob0, h0, hob0⟩ := h undef
 have h' := h
 unfold zjw at h0 h' ⊢
 cases hsg : sig T st o with
 | bad => rw [hsg] at h0; cases h0
 | set i t cs => rw [hsg] at h0; cases h0
 | setr ob i E z n xs => rw [hsg] at h0; cases h0
 | grow ob old E z n xs => rw [hsg] at h0; cases h0
 | pan v => rw [hsg] at h0; cases h0
 | det v =>
  rw [hsg] at h0 hok
  simp only at h0
  obtain ⟨h1, h2⟩ := hok
  unfold zjw at hpure
  rw [hsg] at hpure
  simp only at hpure ⊢
  refine hpure _ h2 fun d ob hd => ?_
  cases hb : an.b with
  | none =>
   rw [hb] at hd
   cases hd
   exact ⟨rfl, h1, rfl, trivial, trivial⟩
  | some b =>
   rw [hb] at hd h0
   simp only at hd h0
   split at hd
   ·rename_i b'
    cases hd
    cases h0
    have hob0 : b' = b := hob0
    subst hob0
    exact ⟨rfl, trivial, rfl, trivial, trivial⟩
   ·cases hd
 | pick ob v =>
  rw [hsg] at h0 hok
  cases h0
  obtain ⟨h1, h2⟩ := hok an.c hob0
  unfold zjw at hpure
  rw [hsg] at hpure
  simp only at hpure ⊢
  refine hpure _ h2 fun d ob hd => ?_
  cases hd
  exact ⟨rfl, h1, rfl, trivial, trivial⟩
 | new v t cs =>
  rw [hsg] at h0 hok
  simp only at h0 ⊢
  split at h0
  ·rename_i i n c
   split at h0
   ·rename_i vs hi hvs
    obtain rfl : i = st.k := by rw [<- Nat.beq_eq]; exact hi
    obtain ⟨h1, h2, h3⟩ := hok
    have hr : reals e cs = vs := zbn e hvs
    have hv : (SV.one (.sl st.k 0 n c)).real (e.setBlk st.k w.heap.size) = .slice (some ⟨w.heap.size, 0, none⟩) n c := by
     simp only [SV.real, SA.real, Env.setBlk_self]
    rw [hv, hr] at h3
    unfold za2
    rw [h3]
    refine ⟨Below.alloc (Below.refl _ _) (Nat.le_refl _) _, fun d ob hd => ?_⟩
    cases hd
    refine ⟨rfl, trivial, rfl, trivial, zhu.up _ _, ⟨w.heap.size, 0, none⟩, rfl, fun j u hj => ?_⟩
    have hcell : (hide (fun g => cx.H g \/ Own e st.m g) (w.alloc (.cells vs.toArray t))).heap[w.heap.size]? = some (.cells vs.toArray t) := by
     rw [zcx]
     have : (w.alloc (.cells vs.toArray t)).heap[w.heap.size]? = some (.cells vs.toArray t) := heap_alloc_new w _
     rw [this]
     have hno : ¬ (cx.H w.heap.size \/ Own e st.m w.heap.size) := fun h => Nat.lt_irrefl _ (hS.mem.hid _ h)
     simp [hno]
    rw [zbl, cell_of_row _ w.heap.size (0 + j) _ _ _ hcell]
    simpa using hj
   ·cases h0
  ·cases h0
 | ask R F =>
  rw [hsg] at h0 hok
  obtain ⟨u, w', h1, h2, h3, h4, h5⟩ := hok (fun g => cx.H g \/ Own e st.m g) hS.mem.hid
  cases h0
  have hob0 : ∀ q, R q -> q = an.nf q := hob0
  unfold za2
  rw [h1]
  refine ⟨h2, fun d ob hd => ?_⟩
  simp only at hd
  cases hd
  exact ⟨hob0 u h3, trivial, rfl, h3, h4 u, h5⟩
 | call f args =>
  rw [hsg] at h0 hok
  simp only at h0 ⊢
  split at h0
  ·rename_i vs hvs
   cases h0
   obtain ⟨hp, hpre, hnf⟩ := hob0
   have hargs : args.map (SV.real e) = vs := by
    have := zch (SV.real e) id (fun x y hy => zrg hy e) hvs
    simpa using this
   unfold za2
   rw [hok.2 hp.ent, hargs]
   refine (hp.run w (fun g => cx.H g \/ Own e st.m g) hS.mem.hid (hpre _ hS.mem.hidden)).mono ?_
   rintro en w' ⟨r, rfl, hR, hpost, hb⟩
   refine ⟨r, rfl, hb, fun d ob hd => ?_⟩
   cases hd
   exact ⟨hnf r hR, trivial, rfl, hR, hp.up r, hpost⟩
  ·cases h0
theorem zwj (hT : T.Ok P) (hS : Sat cx e st a w) {o : Oper} {an : An} (h : ∀ u, ∃ d ob, zim P T ops u an o st = some (d, ob) /\ obT ob) :
  if Region.wanted o (yielded ops a.tmps) = true then za2 P o a w (fun v w' => zbr w w' /\ ∀ d ob, zim P T ops v an o st = some (d, ob) -> v = d.v.real e /\ d.v.lt st.k /\ d.dst = o.dst /\ pO d.p /\ fO (hide (fun g => cx.H g \/ Own e st.m g) w') d.f)
  else ∀ d ob, zim P T ops undef an o st = some (d, ob) -> undef = d.v.real e /\ d.v.lt st.k /\ d.dst = o.dst /\ pO d.p /\ fO (hide (fun g => cx.H g \/ Own e st.m g) w) d.f := by
 have hskip : ∀ d ob, some ((⟨o.dst, .one (.v undef), none, none⟩ : Dl), (none : Option Prop)) = some (d, ob) -> undef = d.v.real e /\ d.v.lt st.k /\ d.dst = o.dst /\ pO d.p /\ fO (hide (fun g => cx.H g \/ Own e st.m g) w) d.f := by
  intro d ob hd
  cases hd
  exact ⟨rfl, trivial, rfl, trivial, trivial⟩
 unfold zim at h ⊢
 split at h
 ·rename_i hg
  rw [if_pos (zaz hg _)]
  exact zk5 hT hS h
 ·rename_i g want hg
  split at h
  ·obtain ⟨_, _, h1, _⟩ := h undef
   cases h1
  ·rename_i t ht
   split at h
   ·rename_i hb
    have hy := zcg ht hS hb
    cases want
    ·rw [if_neg (by simp [Region.wanted, hg, hy])]
     exact hskip
    ·rw [if_pos (by simp [Region.wanted, hg, hy])]
     exact zk5 hT hS h
   ·rename_i hb
    have hy := zcg ht hS hb
    cases want
    ·rw [if_pos (by simp [Region.wanted, hg, hy])]
     exact zk5 hT hS h
    ·rw [if_neg (by simp [Region.wanted, hg, hy])]
     exact hskip
   ·rename_i vs hb
    have hy : yielded ops a.tmps g = none := by
     unfold yielded
     rw [ht]
     simp only [Option.bind_some]
     rw [(hS.slots _ _ hb).2]
     rfl
    rw [if_neg (by simp [Region.wanted, hg, hy])]
    exact hskip
   ·obtain ⟨_, _, h1, _⟩ := h undef
    cases h1
def dn (P : Program) (T : Tab) (N : Nat) (ops : Array Oper) (tb : List Nat) (ann : (Nat -> Value) -> Nat -> An) (vals : Nat -> Value) (st : St) (k : Nat) (ds : List (Nat × Dl)) : Dl := match ops[k]? with
 | some o => match zim P T ops (vals k) (ann (zf6 tb k vals) k) o (zhy N st (mask tb k ds) (o.looksAt ops)) with
  | some (d, _) => d
  | none => ⟨none, .one (.v undef), none, none⟩
 | none => ⟨none, .one (.v undef), none, none⟩
def dsl (P : Program) (T : Tab) (N : Nat) (ops : Array Oper) (tb : List Nat) (ann : (Nat -> Value) -> Nat -> An) (vals : Nat -> Value) (st : St) : Nat -> List (Nat × Dl)
 | 0 => []
 | k + 1 => (k, dn P T N ops tb ann vals st k (dsl P T N ops tb ann vals st k)) :: dsl P T N ops tb ann vals st k
theorem ztr {N : Nat} {tb : List Nat} {ann : (Nat -> Value) -> Nat -> An} {vals : Nat -> Value} {F : List (Nat × Dl) -> Prop} : ∀ (rest : List Oper) (k : Nat), (∀ j, j < rest.length -> rest[j]? = ops[k + j]?) ->
  dgo P T N ops tb ann vals st F k rest (dsl P T N ops tb ann vals st k) ->
  F (dsl P T N ops tb ann vals st (k + rest.length)) /\ ∀ j o, k <= j -> j < k + rest.length -> ops[j]? = some o -> ∃ d ob, zim P T ops (vals j) (ann (zf6 tb j vals) j) o (zhy N st (mask tb j (dsl P T N ops tb ann vals st j)) (o.looksAt ops)) = some (d, ob) /\ (selP (mask tb j (dsl P T N ops tb ann vals st j)) -> obT ob)
 | [], k, _, h => ⟨h, fun j o h1 h2 => by simp at h2; omega⟩
 | o :: r, k, hi, h => by
  have ho : ops[k]? = some o := by have := hi 0 (by simp); simpa using this.symm
  unfold dgo at h
  cases hev : zim P T ops (vals k) (ann (zf6 tb k vals) k) o (zhy N st (mask tb k (dsl P T N ops tb ann vals st k)) (o.looksAt ops)) with
  | none => rw [hev] at h; exact h.elim
  | some p =>
   obtain ⟨d, ob⟩ := p
   rw [hev] at h
   simp only at h
   have hd : dn P T N ops tb ann vals st k (dsl P T N ops tb ann vals st k) = d := by
    unfold dn
    rw [ho]
    simp only [hev]
   have hnext : dgo P T N ops tb ann vals st F (k + 1) r (dsl P T N ops tb ann vals st (k + 1)) := by
    have : dsl P T N ops tb ann vals st (k + 1) = (k, d) :: dsl P T N ops tb ann vals st k := by rw [dsl, hd]
    rw [this]
    cases ob with
    | none => exact h
    | some ob => exact h.2
   have hob : selP (mask tb k (dsl P T N ops tb ann vals st k)) -> obT ob := by
    cases ob with
    | none => intro _; trivial
    | some ob => exact h.1
   obtain ⟨h1, h2⟩ := ztr r (k + 1) (fun j hj => by
    have := hi (j + 1) (by simp; omega)
    simpa [Nat.add_assoc, Nat.add_comm 1 j] using this) hnext
   refine ⟨by simpa [Nat.add_assoc, Nat.add_comm 1] using h1, fun j o' hj1 hj2 hjo => ?_⟩
   simp only [List.length_cons] at hj2
   by_cases hjk : j = k
   ·subst hjk
    rw [ho] at hjo
    cases hjo
    exact ⟨d, ob, hev, hob⟩
   ·exact h2 j o' (by omega) (by omega) hjo
theorem zo9 {N : Nat} {tb : List Nat} {ann : (Nat -> Value) -> Nat -> An} {vals vals' : Nat -> Value} {k : Nat} : ∀ n, (∀ j, j < n -> zay tb k j = true -> dn P T N ops tb ann vals st j (dsl P T N ops tb ann vals st j) = dn P T N ops tb ann vals' st j (dsl P T N ops tb ann vals' st j)) ->
  mask tb k (dsl P T N ops tb ann vals st n) = mask tb k (dsl P T N ops tb ann vals' st n)
 | 0, _ => rfl
 | n + 1, h => by
  have ih := zo9 n (fun j hj => h j (by omega))
  simp only [dsl, mask]
  split
  ·rename_i hb
   rw [h n (by omega) hb, ih]
  ·exact ih
theorem zpl {tb : List Nat} (h : zgf tb = true) {k j i : Nat} (hk : k < tb.length) (hjk : j < k) (h1 : zay tb k j = true) (h2 : zay tb j i = true) : zay tb k i = true := by
 have h0 := List.all_eq_true.1 h k (List.mem_range.2 hk)
 rw [Bool.and_eq_true] at h0
 have h3 := List.all_eq_true.1 h0.2 j (List.mem_range.2 hjk)
 rw [h1] at h3
 simp only [Bool.not_true, Bool.false_or, beq_iff_eq] at h3
 unfold zay at *
 rw [<- h3, Nat.testBit_or, h2]
 rfl
theorem zxy {N : Nat} {tb : List Nat} {ann : (Nat -> Value) -> Nat -> An} (htr : zgf tb = true) (hlt : ∀ k j, zay tb k j = true -> j < k) : ∀ (n k : Nat), k <= n -> k < tb.length -> ∀ vals vals' : Nat -> Value, (∀ j, j = k \/ zay tb k j = true -> vals j = vals' j) ->
  dn P T N ops tb ann vals st k (dsl P T N ops tb ann vals st k) = dn P T N ops tb ann vals' st k (dsl P T N ops tb ann vals' st k)
 | 0, k, hk, hkl, vals, vals', h => by
  obtain rfl : k = 0 := by omega
  have hm : zf6 tb 0 vals = zf6 tb 0 vals' := by
   funext j
   unfold zf6
   cases hb : zay tb 0 j with
   | true => have := hlt _ _ hb; omega
   | false => rfl
  unfold dn
  rw [hm, h 0 (.inl rfl)]
  rfl
 | n + 1, k, hk, hkl, vals, vals', h => by
  have hm : zf6 tb k vals = zf6 tb k vals' := by
   funext j
   unfold zf6
   cases hb : zay tb k j with
   | true => exact h j (.inr hb)
   | false => rfl
  have hmask := zo9 (P := P) (T := T) (st := st) (ops := ops) (N := N) (ann := ann) (vals := vals) (vals' := vals') (tb := tb) (k := k) k (fun j hj hb => zxy htr hlt n j (by omega) (by omega) vals vals' (fun i hi => h i (.inr (by
   rcases hi with rfl | hi
   ·exact hb
   ·exact zpl htr hkl hj hb hi))))
  unfold dn
  rw [hm, h k (.inl rfl), hmask]
end
end Go.Proofs.Sym
end
section
set_option linter.unusedVariables false
set_option linter.unusedSimpArgs false
namespace Go.Proofs.Sym
open Go.RowKit Go.Proofs.Base Go.Proofs.Mono
theorem zal {α : Type _} (i : Nat) : ∀ (xs ys : List (Nat × α)), get i (xs ++ ys) = match get i xs with | some v => some v | none => get i ys
 | [], ys => rfl
 | (j, x) :: r, ys => by
  by_cases h : i = j
  ·subst h
   rw [List.cons_append, za4, za4]
  ·rw [List.cons_append, zbw h, zbw h]
   exact zal i r ys
theorem zbj {x : Nat} : ∀ {l : List Nat}, hasN x l = true ↔ x ∈ l
 | [] => by simp [hasN]
 | y :: r => by
  by_cases h : x = y
  ·subst h
   simp [hasN]
  ·have : Nat.beq x y = false := by rw [<- Bool.not_eq_true, Nat.beq_eq]; exact h
   simp only [hasN, this, List.mem_cons, h, false_or]
   exact zbj
theorem zdn {α : Type _} {i : Nat} {v : α} {l : List Nat} : ∀ {xs : List (Nat × α)}, get i (zo8 l xs) = some v -> i ∈ l /\ get i xs = some v
 | [], h => by cases h
 | (j, x) :: r, h => by
  simp only [zo8] at h
  split at h
  ·rename_i hj
   rcases zah h with ⟨rfl, rfl⟩ | ⟨hne, h⟩
   ·exact ⟨zbj.1 hj, za4 _ _ _⟩
   ·obtain ⟨h1, h2⟩ := zdn h
    exact ⟨h1, by rw [zbw hne]; exact h2⟩
  ·rename_i hj
   obtain ⟨h1, h2⟩ := zdn h
   have hne : i ≠ j := fun e => by
    subst e
    rw [zbj.2 h1] at hj
    cases hj
   exact ⟨h1, by rw [zbw hne]; exact h2⟩
theorem zcf {N i : Nat} {v : SV} : ∀ {ds : List (Nat × Dl)}, get i (selS N ds) = some v -> ∃ j d, (j, d) ∈ ds /\ d.dst = some i /\ i < N /\ d.v = v
 | [], h => by cases h
 | (j, d) :: r, h => by
  simp only [selS] at h
  split at h
  ·obtain ⟨j', d', h1, h2⟩ := zcf h
   exact ⟨j', d', List.mem_cons_of_mem _ h1, h2⟩
  ·rename_i t ht
   split at h
   ·rename_i hb
    rcases zah h with ⟨rfl, rfl⟩ | ⟨hne, h⟩
    ·exact ⟨j, d, List.mem_cons_self, ht, by rw [<- Nat.blt_eq]; exact hb, rfl⟩
    ·obtain ⟨j', d', h1, h2⟩ := zcf h
     exact ⟨j', d', List.mem_cons_of_mem _ h1, h2⟩
   ·obtain ⟨j', d', h1, h2⟩ := zcf h
    exact ⟨j', d', List.mem_cons_of_mem _ h1, h2⟩
theorem zfr {N i : Nat} : ∀ {ds : List (Nat × Dl)}, get i (selS N ds) = none -> ∀ j d, (j, d) ∈ ds -> d.dst = some i -> ¬ i < N
 | [], _, j, d, hm, _ => by cases hm
 | (j0, d0) :: r, h, j, d, hm, hd => by
  simp only [selS] at h
  rcases List.mem_cons.1 hm with heq | hm
  ·cases heq
   rw [hd] at h
   simp only at h
   split at h
   ·rw [za4] at h
    cases h
   ·rename_i hb
    intro hlt
    rw [<- Nat.blt_eq] at hlt
    rw [hlt] at hb
    cases hb
  ·split at h
   ·exact zfr h j d hm hd
   ·rename_i t ht
    split at h
    ·by_cases e1 : i = t
     ·subst e1
      rw [za4] at h
      cases h
     ·rw [zbw e1] at h
      exact zfr h j d hm hd
    ·exact zfr h j d hm hd
theorem zei {tb : List Nat} {k j : Nat} {d : Dl} : ∀ {ds : List (Nat × Dl)}, (j, d) ∈ mask tb k ds ↔ (j, d) ∈ ds /\ zay tb k j = true
 | [] => by simp [mask]
 | (i, c) :: r => by
  simp only [mask]
  split
  ·rename_i hb
   simp only [List.mem_cons, zei (ds := r), Prod.mk.injEq]
   constructor
   ·rintro (⟨rfl, rfl⟩ | ⟨h1, h2⟩)
    ·exact ⟨.inl ⟨rfl, rfl⟩, hb⟩
    ·exact ⟨.inr h1, h2⟩
   ·rintro ⟨⟨rfl, rfl⟩ | h1, h2⟩
    ·exact .inl ⟨rfl, rfl⟩
    ·exact .inr ⟨h1, h2⟩
  ·rename_i hb
   simp only [List.mem_cons, zei (ds := r), Prod.mk.injEq]
   constructor
   ·rintro ⟨h1, h2⟩
    exact ⟨.inr h1, h2⟩
   ·rintro ⟨⟨rfl, rfl⟩ | h1, h2⟩
    ·rw [hb] at h2
     cases h2
    ·exact ⟨h1, h2⟩
theorem zn2 : ∀ {ds : List (Nat × Dl)}, (∀ j d, (j, d) ∈ ds -> pO d.p) -> selP ds
 | [], _ => trivial
 | (j, d) :: r, h => by
  have h1 := h j d List.mem_cons_self
  have ih := zn2 (ds := r) (fun j d hm => h j d (List.mem_cons_of_mem _ hm))
  simp only [selP]
  split
  ·rename_i p hp
   rw [hp] at h1
   exact ⟨h1, ih⟩
  ·exact ih
theorem zh9 {F : World -> Prop} : ∀ {ds : List (Nat × Dl)}, F ∈ selF ds -> ∃ j d, (j, d) ∈ ds /\ d.f = some F
 | [], h => by cases h
 | (j, d) :: r, h => by
  simp only [selF] at h
  split at h
  ·rename_i G hG
   rcases List.mem_cons.1 h with rfl | h
   ·exact ⟨j, d, List.mem_cons_self, hG⟩
   ·obtain ⟨j', d', h1, h2⟩ := zh9 h
    exact ⟨j', d', List.mem_cons_of_mem _ h1, h2⟩
  ·obtain ⟨j', d', h1, h2⟩ := zh9 h
   exact ⟨j', d', List.mem_cons_of_mem _ h1, h2⟩
section
variable {P : Program} {T : Tab} {cx : Cx} {e : Env} {st : St} {a : Act} {w : World} {ops : Array Oper}
theorem Mem.more {m : List (Nat × LB)} {k : Nat} {f : List (World -> Prop)} (h : Mem cx e m k f w) : ∀ (g : List (World -> Prop)), (∀ F ∈ g, Up F /\ F (hide (fun g => cx.H g \/ Own e m g) w)) -> Mem cx e m k (g ++ f) w
 | [], _ => h
 | F :: r, hg => (h.more r fun G hG => hg G (List.mem_cons_of_mem _ hG)).add (hg F List.mem_cons_self).1 (hg F List.mem_cons_self).2
theorem zo0 {N : Nat} {tb : List Nat} {ann : (Nat -> Value) -> Nat -> An} {vals : Nat -> Value} {j : Nat} {d : Dl} : ∀ {n : Nat}, (j, d) ∈ dsl P T N ops tb ann vals st n -> j < n /\ d = dn P T N ops tb ann vals st j (dsl P T N ops tb ann vals st j)
 | 0, h => by cases h
 | n + 1, h => by
  rcases List.mem_cons.1 h with heq | h
  ·cases heq
   exact ⟨Nat.lt_succ_self _, rfl⟩
  ·obtain ⟨h1, h2⟩ := zo0 h
   exact ⟨Nat.lt_succ_of_lt h1, h2⟩
theorem zn0 {N : Nat} {tb : List Nat} {ann : (Nat -> Value) -> Nat -> An} {vals : Nat -> Value} {j : Nat} : ∀ {n : Nat}, j < n -> (j, dn P T N ops tb ann vals st j (dsl P T N ops tb ann vals st j)) ∈ dsl P T N ops tb ann vals st n
 | n + 1, h => by
  by_cases e1 : j = n
  ·subst e1
   exact List.mem_cons_self
  ·exact List.mem_cons_of_mem _ (zn0 (by omega))
def Done (P : Program) (T : Tab) (cx : Cx) (e : Env) (ops : Array Oper) (tb : List Nat) (ann : (Nat -> Value) -> Nat -> An) (st : St) (k : Nat) (vals : Nat -> Value) (w : World) : Prop :=
 vals k = (dn P T cx.n ops tb ann vals st k (dsl P T cx.n ops tb ann vals st k)).v.real e /\ (dn P T cx.n ops tb ann vals st k (dsl P T cx.n ops tb ann vals st k)).v.lt st.k /\
 (dn P T cx.n ops tb ann vals st k (dsl P T cx.n ops tb ann vals st k)).dst = zbk ops k /\ pO (dn P T cx.n ops tb ann vals st k (dsl P T cx.n ops tb ann vals st k)).p /\
 fO (hide (fun g => cx.H g \/ Own e st.m g) w) (dn P T cx.n ops tb ann vals st k (dsl P T cx.n ops tb ann vals st k)).f
theorem zrv {H : Nat -> Prop} {w w' : World} (h : zbr w w') : Sub (hide H w) (hide H w') :=
 zax fun g o hg hn => ⟨by rw [h.block g (Array.getElem?_eq_some_iff.1 hg).1, hg], hn⟩
theorem zkl {tb : List Nat} (h : zgf tb = true) {k j : Nat} (hb : zay tb k j = true) : j < k := by
 by_cases hk : k < tb.length
 ·have h0 := List.all_eq_true.1 h k (List.mem_range.2 hk)
  rw [Bool.and_eq_true, Nat.blt_eq] at h0
  refine Classical.byContradiction fun hn => ?_
  unfold zay at hb
  rw [Nat.testBit_lt_two_pow (Nat.lt_of_lt_of_le h0.1 (Nat.pow_le_pow_right (by decide) (by omega)))] at hb
  cases hb
 ·unfold zay at hb
  have : tb.getD k 0 = 0 := by simp [List.getD, List.getElem?_eq_none (Nat.le_of_not_lt hk)]
  rw [this] at hb
  simp at hb
theorem zzy (hT : T.Ok P) (hS : Sat cx e st a w) {id : Nat} {K : Exit -> St -> Prop} (h : zx2 P T cx.n ops (K .normal) (fun ch st => K (.panic ch) st) st) : (Code.region id ops true).wp P (Post cx K) a w := by
 obtain ⟨m, tb, ann, htb, hlen, htab, htail, htr, hm, hgo⟩ := h.ex
 have Tb := zfw htab
 have U := zzw htail
 have hbit : ∀ k j, bef ops k j = zay tb k j := by
  intro k j
  unfold bef zay
  rw [<- htb]
  congr 1
  simp [Array.getD_eq_getD_getElem?, List.getD]
 have hmono : (ops.toList.take m).length = m := by simp; omega
 have hidx : ∀ j, j < (ops.toList.take m).length -> (ops.toList.take m)[j]? = ops[0 + j]? := by
  intro j hj
  rw [hmono] at hj
  rw [List.getElem?_take_of_lt hj, Nat.zero_add, Array.getElem?_toList]
 have hall := fun vals => ztr (P := P) (T := T) (st := st) (ops := ops) (ops.toList.take m) 0 hidx (hgo vals)
 have loc : ∀ {k : Nat} {vals vals' : Nat -> Value}, k < ops.size -> (∀ j, j = k \/ zay tb k j = true -> vals j = vals' j) -> dn P T cx.n ops tb ann vals st k (dsl P T cx.n ops tb ann vals st k) = dn P T cx.n ops tb ann vals' st k (dsl P T cx.n ops tb ann vals' st k) :=
  fun hk hv => zxy htr (fun k j hb => zkl htr hb) _ _ (Nat.le_refl _) (by rw [hlen]; exact hk) _ _ hv
 refine wp_region_any hT.mixed (zta Tb zbr.refl (fun w' => Mem cx e st.m st.k st.f w') (fun hab hb => hb.later hab) (Done P T cx e ops tb ann st) ?_ ?_ a _ m hm U ?_ ?_ _ _ (fun _ => undef) a _ (by simp) (by simp) ?_ ?_ ?_ ?_ ?_)
 ·rintro k vals w1 w2 h12 ⟨h1, h2, h3, h4, h5⟩
  refine ⟨h1, h2, h3, h4, ?_⟩
  cases hf : (dn P T cx.n ops tb ann vals st k (dsl P T cx.n ops tb ann vals st k)).f with
  | none => trivial
  | some F =>
   rw [hf] at h5
   exact ⟨h5.1, h5.1 _ _ (zrv h12) h5.2⟩
 ·rintro k vals vals' w1 hk hv ⟨h1, h2, h3, h4, h5⟩
  have hv' : ∀ j, j = k \/ zay tb k j = true -> vals j = vals' j := fun j hj => hv j (by
   rcases hj with rfl | hj
   ·exact hk
   ·exact Nat.lt_trans (zkl htr hj) hk) (by
   rcases hj with rfl | hj
   ·exact .inl rfl
   ·exact .inr (by rw [hbit]; exact hj))
  have hd := loc hk hv'
  unfold Done
  rw [<- hd, <- hv' k (.inl rfl)]
  exact ⟨h1, h2, h3, h4, h5⟩
 ·intro k vals w1 o hk ho hC hB
  have hks : k < ops.size := by omega
  have hBb : ∀ j, zay tb k j = true -> Done P T cx e ops tb ann st j vals w1 := fun j hj => hB j (Nat.lt_trans (zkl htr hj) hks) (by rw [hbit]; exact hj)
  have hmem : ∀ j d, (j, d) ∈ mask tb k (dsl P T cx.n ops tb ann vals st k) -> j < k /\ zay tb k j = true /\ d = dn P T cx.n ops tb ann vals st j (dsl P T cx.n ops tb ann vals st j) := by
   intro j d hjd
   obtain ⟨h1, h2⟩ := zei.1 hjd
   obtain ⟨h3, h4⟩ := zo0 h1
   exact ⟨h3, h2, h4⟩
  have hsat : Sat cx e (zhy cx.n st (mask tb k (dsl P T cx.n ops tb ann vals st k)) (o.looksAt ops)) (zao ops a vals k) w1 := by
   refine ⟨hS.base, (zco a vals k).1.trans hS.size, (zco a vals k).2.trans hS.defers, fun i v hi => ?_, hC.more _ fun F hF => ?_⟩
   ·obtain ⟨hlook, hi⟩ := zdn hi
    rw [zal] at hi
    split at hi
    ·rename_i v' hv'
     cases hi
     obtain ⟨j, d, h1, h2, h3, rfl⟩ := zcf hv'
     obtain ⟨hjk, hbj, rfl⟩ := hmem j d h1
     obtain ⟨g1, g2, g3, _, _⟩ := hBb j hbj
     refine ⟨g2, ?_⟩
     rw [zct Tb a vals (by rw [<- g3]; exact h2) (by rw [hS.size]; exact h3) k (by omega) hjk, g1]
    ·rename_i hno
     obtain ⟨h1, h2⟩ := hS.slots i v hi
     refine ⟨h1, ?_⟩
     rw [zby a vals k fun j hj hdj => ?_]
     ·exact h2
     ·have hjs : j < ops.size := by omega
      rcases Tb.looks ho hlook hjs (by omega) hdj with h3 | h3
      ·rw [hbit] at h3
       have hjm := zei.2 ⟨zn0 (P := P) (T := T) (st := st) (ops := ops) (N := cx.n) (tb := tb) (ann := ann) (vals := vals) hj, h3⟩
       refine zfr hno j _ hjm (by rw [(hBb j h3).2.2.1]; exact hdj) ?_
       have h5 : i < a.tmps.size := by
        by_cases h6 : i < a.tmps.size
        ·exact h6
        ·rw [Array.getElem?_eq_none (Nat.le_of_not_lt h6)] at h2
         cases h2
       rw [<- hS.size]
       exact h5
      ·rw [hbit] at h3
       have := zkl htr h3
       omega
   ·obtain ⟨j, d, h1, h2⟩ := zh9 hF
    obtain ⟨hjk, hbj, rfl⟩ := hmem j d h1
    obtain ⟨_, _, _, _, g5⟩ := hBb j hbj
    rw [h2] at g5
    exact g5
  have hp : selP (mask tb k (dsl P T cx.n ops tb ann vals st k)) := zn2 fun j d h1 => by
   obtain ⟨hjk, hbj, rfl⟩ := hmem j d h1
   exact (hBb j hbj).2.2.2.1
  have hoff : ∀ u, zf6 tb k (upd vals k u) = zf6 tb k vals /\ mask tb k (dsl P T cx.n ops tb ann (upd vals k u) st k) = mask tb k (dsl P T cx.n ops tb ann vals st k) := by
   intro u
   have hne : ∀ j, zay tb k j = true -> upd vals k u j = vals j := fun j hj => by
    have := zkl htr hj
    simp [upd, Nat.ne_of_lt this]
   refine ⟨?_, zo9 k fun j hj hb => loc (by omega) fun i hi => hne i ?_⟩
   ·funext j
    unfold zf6
    split
    ·rename_i hj
     exact hne j hj
    ·rfl
   ·rcases hi with rfl | hi
    ·exact hb
    ·exact zpl htr (by rw [hlen]; exact hks) hj hb hi
  have hev : ∀ u, ∃ d ob, zim P T ops u (ann (zf6 tb k vals) k) o (zhy cx.n st (mask tb k (dsl P T cx.n ops tb ann vals st k)) (o.looksAt ops)) = some (d, ob) /\ obT ob := by
   intro u
   obtain ⟨d, ob, h1, h2⟩ := (hall (upd vals k u)).2 k o (Nat.zero_le _) (by rw [hmono]; omega) ho
   rw [(hoff u).1, (hoff u).2] at h1
   rw [(hoff u).2] at h2
   simp only [upd, if_true] at h1
   exact ⟨d, ob, h1, h2 hp⟩
  have hdn : ∀ u d ob, zim P T ops u (ann (zf6 tb k vals) k) o (zhy cx.n st (mask tb k (dsl P T cx.n ops tb ann vals st k)) (o.looksAt ops)) = some (d, ob) -> dn P T cx.n ops tb ann (upd vals k u) st k (dsl P T cx.n ops tb ann (upd vals k u) st k) = d := by
   intro u d ob h1
   unfold dn
   rw [ho]
   simp only
   rw [(hoff u).1, (hoff u).2]
   simp only [upd, if_true]
   rw [h1]
  have hfin := zwj (ops := ops) hT hsat hev
  have hdst : zbk ops k = o.dst := by simp [zbk, ho]
  split
  ·rename_i hw
   rw [if_pos hw] at hfin
   unfold za2 at hfin ⊢
   generalize (execOp (zao ops a vals k).eval o).run P w1 = r at hfin ⊢
   have hr := hfin
   cases r with
   | ok n w2 =>
    have key : ∀ v w3, (zbr w1 w3 /\ ∀ d ob, zim P T ops v (ann (zf6 tb k vals) k) o (zhy cx.n st (mask tb k (dsl P T cx.n ops tb ann vals st k)) (o.looksAt ops)) = some (d, ob) -> v = d.v.real e /\ d.v.lt st.k /\ d.dst = o.dst /\ pO d.p /\ fO (hide (fun g => cx.H g \/ Own e st.m g) w3) d.f) -> zbr w1 w3 /\ Done P T cx e ops tb ann st k (upd vals k v) w3 := by
     rintro v w3 ⟨h1, h2⟩
     refine ⟨h1, ?_⟩
     obtain ⟨d, ob, h3, _⟩ := hev v
     obtain ⟨g1, g2, g3, g4, g5⟩ := h2 d ob h3
     have hd := hdn v d ob h3
     unfold Done
     rw [hd]
     exact ⟨by simp only [upd, if_true]; exact g1, g2, g3.trans hdst.symm, g4, g5⟩
    cases n with
    | value u => exact key _ _ hr
    | skip => exact key _ _ hr
    | enter f args => exact Calls.mono hr fun en w3 ⟨v, he, hv⟩ => ⟨v, he, key _ _ hv⟩
    | row row args => exact Rows.mono hr fun v w3 hv => key _ _ hv
    | _ => exact hr.elim
   | halt x w2 => exact hr.elim
  ·rename_i hw
   rw [if_neg hw] at hfin
   obtain ⟨d, ob, h3, _⟩ := hev undef
   obtain ⟨g1, g2, g3, g4, g5⟩ := hfin d ob h3
   have hd := hdn undef d ob h3
   unfold Done
   rw [hd]
   exact ⟨by simp only [upd, if_true]; exact g1, g2, g3.trans hdst.symm, g4, g5⟩
 ·intro fuel listed vals a' w' hsz hcnt hpre hallL hA hC hD
  have ha : a' = zao ops a vals m := zu5 Tb hm hA hpre hallL
  have hmem : ∀ j d, (j, d) ∈ dsl P T cx.n ops tb ann vals st m -> j < m /\ d = dn P T cx.n ops tb ann vals st j (dsl P T cx.n ops tb ann vals st j) := fun j d hjd => zo0 hjd
  have hsat : Sat cx e (dfin cx.n st (dsl P T cx.n ops tb ann vals st m)) a' w' := by
   subst ha
   refine ⟨hS.base, (zco a vals m).1.trans hS.size, (zco a vals m).2.trans hS.defers, fun i v hi => ?_, hC.more _ fun F hF => ?_⟩
   ·have hi : get i (selS cx.n (dsl P T cx.n ops tb ann vals st m) ++ st.s) = some v := hi
    rw [zal] at hi
    split at hi
    ·rename_i v' hv'
     cases hi
     obtain ⟨j, d, h1, h2, h3, rfl⟩ := zcf hv'
     obtain ⟨hjk, rfl⟩ := hmem j d h1
     obtain ⟨g1, g2, g3, _, _⟩ := hD j hjk
     refine ⟨g2, ?_⟩
     rw [zct Tb a vals (by rw [<- g3]; exact h2) (by rw [hS.size]; exact h3) m hm hjk, g1]
    ·rename_i hno
     obtain ⟨h1, h2⟩ := hS.slots i v hi
     refine ⟨h1, ?_⟩
     rw [zby a vals m fun j hj hdj => ?_]
     ·exact h2
     ·refine zfr hno j _ (zn0 (P := P) (T := T) (st := st) (ops := ops) (N := cx.n) (tb := tb) (ann := ann) (vals := vals) hj) (by rw [(hD j hj).2.2.1]; exact hdj) ?_
      have h5 : i < a.tmps.size := by
       by_cases h6 : i < a.tmps.size
       ·exact h6
       ·rw [Array.getElem?_eq_none (Nat.le_of_not_lt h6)] at h2
        cases h2
      rw [<- hS.size]
      exact h5
   ·obtain ⟨j, d, h1, h2⟩ := zh9 hF
    obtain ⟨hjk, rfl⟩ := hmem j d h1
    obtain ⟨_, _, _, _, g5⟩ := hD j hjk
    rw [h2] at g5
    exact g5
  have hp : selP (dsl P T cx.n ops tb ann vals st m) := zn2 fun j d h1 => by
   obtain ⟨hjk, rfl⟩ := hmem j d h1
   exact (hD j hjk).2.2.2.1
  have hF := (hall vals).1
  rw [hmono, Nat.zero_add] at hF
  have hlist := znu (P := P) (T := T) (cx := cx) (ops := ops) (K := K) hT _ e _ a' w' hsat (hF hp)
  exact zw9 Tb m U (ops.toList.drop m) m a' w' (fun j hj => by rw [List.getElem?_drop, Array.getElem?_toList]) (Nat.le_refl _) (by simp; omega) hlist fuel listed hsz (fun j hj => ⟨hpre j hj, hallL j⟩) hcnt
 ·intro j hj hlk
  rw [zbc] at hlk
  cases hlk
 ·intro k hk hlk
  rw [zbc] at hlk
  cases hlk
 ·exact ⟨rfl, rfl, fun hj hlk => absurd (zbc.symm.trans hlk) (by decide), fun _ => rfl⟩
 ·exact hS.mem.later ⟨rfl, rfl, rfl, Nat.le_refl _, fun _ _ => rfl⟩
 ·intro j hj hlk
  rw [zbc] at hlk
  cases hlk
end
end Go.Proofs.Sym
end
section
set_option linter.unusedVariables false
set_option linter.unusedSimpArgs false
namespace Go.Proofs.Sym
open Go.RowKit Go.Proofs.Base Go.Proofs.Mono
section
variable {P : Program} {T : Tab} {cx : Cx} {e : Env} {st : St} {a : Act} {w : World}
theorem zlb (hT : T.Ok P) (hS : Sat cx e st a w) {o : Oper} {Kx : SV -> St -> Prop} {X : List PanicEntry -> St -> Prop} {next : Act -> World -> Prop} {Q : Exit -> Act -> World -> Prop}
  (hQ : ∀ ch e' st' w', X ch st' -> Sat cx e' st' a w' -> Q (.panic ch) a w')
  (hnext : ∀ e' st' v w', Kx v st' -> e.eqTo st.k e' -> st.k <= st'.k -> v.lt st'.k -> st'.b = st.b -> Mem cx e' st'.m st'.k st'.f w' -> next (a.put o.dst (v.real e')) w')
  (h : sigK P (sig T st o) st Kx X) : o.wp P a w next Q := by
 have hok := zfc (o := o) hT hS
 unfold Oper.wp
 cases hsg : sig T st o with
 | bad => rw [hsg] at h; exact h.elim
 | det v =>
  rw [hsg] at h hok
  obtain ⟨h1, h2⟩ := hok
  rw [h2]
  exact hnext _ _ _ _ h (Env.eqTo.refl _ _) (Nat.le_refl _) h1 rfl hS.mem
 | new v t cs =>
  rw [hsg] at h hok
  obtain ⟨h1, h2, h3⟩ := hok
  rw [h3]
  exact hnext _ _ _ _ h (e.eqTo_blk _ _) (Nat.le_succ _) h1 rfl (hS.mem.new t cs h2)
 | pick ob v =>
  rw [hsg] at h hok
  obtain ⟨c, hc, hK⟩ := h
  obtain ⟨h1, h2⟩ := hok c hc
  rw [h2]
  exact hnext _ _ _ _ hK (Env.eqTo.refl _ _) (Nat.le_refl _) h1 rfl hS.mem
 | set i t cs =>
  rw [hsg] at h hok
  obtain ⟨⟨cs0, h1⟩, h2, w', h3, h4⟩ := hok
  rw [h3]
  exact hnext _ _ (.one (.v undef)) _ h (Env.eqTo.refl _ _) (Nat.le_refl _) trivial rfl (hS.mem.set h1 h2 h4.blk h4.far h4.os h4.tape h4.out h4.size)
 | setr ob i E z n xs =>
  rw [hsg] at h hok
  obtain ⟨hob, hK⟩ := h
  obtain ⟨⟨xs0, h1⟩, w', h3, h4⟩ := hok hob
  rw [h3]
  exact hnext _ _ (.one (.v undef)) _ hK (Env.eqTo.refl _ _) (Nat.le_refl _) trivial rfl (hS.mem.setr h1 h4.own h4.far h4.os h4.tape h4.out h4.size)
 | ask R F =>
  rw [hsg] at h hok
  obtain ⟨u, w', h1, h2, h3, h4, h5⟩ := hok (fun g => cx.H g \/ Own e st.m g) hS.mem.hid
  rw [h1]
  exact hnext _ _ (.one (.v u)) _ (h u h3) (Env.eqTo.refl _ _) (Nat.le_refl _) trivial rfl ((hS.mem.later h2).add (h4 u) h5)
 | grow ob old E z n xs =>
  rw [hsg] at h hok
  obtain ⟨c, hc, hK⟩ := h
  obtain ⟨v, w', h1, h2⟩ := hok.2 c hc
  rw [h1]
  have hm := hS.mem.grow old hok.1 h2.g h2.own h2.new
  have hr : (Value.slice v.1 v.2.1 v.2.2) = (SV.one (.row st.k)).real (e.setRow st.k v) := (Env.setRow_self e st.k v).symm
  rw [hr]
  exact hnext _ _ _ _ hK (e.eqTo_row _ _) (Nat.le_succ _) (Nat.lt_succ_self _) rfl hm
 | call f args =>
  rw [hsg] at h hok
  have h : zce P f args st Kx X := h
  obtain ⟨hent, hrun⟩ := h.run cx e w hS.mem hok.1
  rw [hok.2 hent]
  refine hrun.mono ?_
  rintro en w' ⟨e', st', he, hk, hs, hbs, hm, ⟨v, rfl, hv, hK⟩ | ⟨ch, rfl, hX⟩⟩
  ·exact hnext _ _ _ _ hK he hk hv hbs hm
  ·exact hQ _ _ _ _ hX (zd3 (v := .one (.v undef)) hS hs hbs trivial hm none)
 | pan v =>
  rw [hsg] at h hok
  have hok : (execOp a.eval o).run P w = .halt (.panic v) w := hok
  rw [hok]
  exact hQ _ _ _ _ h hS
end
def zc4 : List Nat -> Bool
 | [] => true
 | x :: r => !hasN x r && zc4 r
def zb0 (k : Nat) : List Nat -> Bool
 | [] => true
 | x :: r => Nat.blt x k && zb0 k r
theorem zfs {ρ : List Nat} {k : Nat} (h : zb0 k ρ = true) : ∀ x ∈ ρ, x < k := by
 induction ρ with
 | nil => simp
 | cons y r ih =>
  rw [zb0, Bool.and_eq_true, Nat.blt_eq] at h
  intro x hx
  rcases List.mem_cons.1 hx with rfl | hx
  ·exact h.1
  ·exact ih h.2 x hx
theorem zf5 {x : Nat} : ∀ {l : List Nat}, x ∈ l -> hasN x l = true
 | y :: r, h => by
  unfold hasN
  split
  ·rfl
  ·rename_i hb
   rcases List.mem_cons.1 h with rfl | h
   ·rw [Nat.beq_refl] at hb; cases hb
   ·exact zf5 h
def zpn (sg : Sig) (v : SV) : Prop := match sg with
 | .det u => u = v
 | _ => False
def rst (N : Nat) (ops : Array Oper) (tb : List Nat) (ds : List (Nat × Dl)) (k : Nat) (o : Oper) (st : St) : St := { st with s := zo8 (o.looksAt ops) (selS N (mask tb k ds) ++ st.s) }
def zq8 (T : Tab) (N : Nat) (ops : Array Oper) (tb : List Nat) (ds : List (Nat × Dl)) (L : List Nat) (st : St) : List (Nat × Dl) -> Prop
 | [] => True
 | (k, d) :: r => (match ops[k]? with
  | none => False
  | some o => match o.guard with
   | some _ => False
   | none => d.dst = o.dst /\ match L.any (fun c => zay tb c k) with
    | true => True
    | false => zpn (sig T (rst N ops tb ds k o st) o) d.v) /\ zq8 T N ops tb ds L st r
def zjn (C L : List Nat) (tb : List Nat) : List Nat := C.filter fun i => !hasN i L && C.all fun j => !zay tb i j || hasN j L
def zns (p : Nat -> Prop) : List Nat -> Prop
 | [] => True
 | i :: r => p i /\ zns p r
def cgo (P : Program) (T : Tab) (N : Nat) (ops : Array Oper) (tb C : List Nat) (ds : List (Nat × Dl)) (K : St -> Prop) (X : List PanicEntry -> St -> Prop) : Nat -> List Nat -> St -> Prop
 | n, L, st => zq8 T N ops tb ds L st ds /\ match C.all (fun i => hasN i L) with
  | true => K { st with s := selS N ds ++ st.s }
  | false => match n with
   | 0 => False
   | n + 1 => zns (fun i => match ops[i]? with
    | none => False
    | some o => match o.guard with
     | some _ => False
     | none => sigK P (sig T (rst N ops tb ds i o st) o) (rst N ops tb ds i o st) (fun v st' => cgo P T N ops tb C ds K X n (i :: L) (({ st' with s := st.s } : St).put N o.dst v)) X) (zjn C L tb)
def zl2 (ds : List (Nat × Dl)) : List (Nat × SV) -> List (Nat × SV)
 | [] => []
 | (i, v) :: r => match ds.any (fun p => p.2.dst == some i) with
  | true => zl2 ds r
  | false => (i, v) :: zl2 ds r
def zg8 (ds : List (Nat × Dl)) : List Nat := ds.map (·.1)
def zl8 (n : Nat) (C D : List Nat) : Bool := (List.range n).all fun i => hasN i C || hasN i D
structure zl5 (P : Program) (T : Tab) (N : Nat) (ops : Array Oper) (K : St -> Prop) (X : List PanicEntry -> St -> Prop) (st : St) : Prop where
 ex : ∃ (tb C : List Nat) (ds : List (Nat × Dl)), (Region.before ops).toList = tb /\ tb.length = ops.size /\ zfa ops = true /\ zgf tb = true /\ zl8 ops.size C (zg8 ds) = true /\ zc4 (zg8 ds) = true /\ zb0 ops.size C = true /\ ((zg8 ds).all fun k => !hasN k C) = true /\
  cgo P T N ops tb C ds K X C.length [] { st with s := zl2 ds st.s }
theorem zgt {p : Nat -> Prop} {i : Nat} : ∀ {l : List Nat}, zns p l -> i ∈ l -> p i
 | j :: r, h, hi => by
  rcases List.mem_cons.1 hi with rfl | hi
  ·exact h.1
  ·exact zgt h.2 hi
theorem zer {T : Tab} {N : Nat} {ops : Array Oper} {tb : List Nat} {ds : List (Nat × Dl)} {L : List Nat} {st : St} {k : Nat} {d : Dl} : ∀ {l : List (Nat × Dl)}, zq8 T N ops tb ds L st l -> (k, d) ∈ l ->
  ∃ o, ops[k]? = some o /\ o.guard = none /\ d.dst = o.dst /\ (L.any (fun c => zay tb c k) = false -> zpn (sig T (rst N ops tb ds k o st) o) d.v)
 | (k0, d0) :: r, h, hm => by
  rcases List.mem_cons.1 hm with heq | hm
  ·cases heq
   simp only [zq8] at h
   have h1 := h.1
   split at h1
   ·exact h1.elim
   ·rename_i o ho
    split at h1
    ·exact h1.elim
    ·rename_i hg
     refine ⟨o, ho, hg, h1.1, fun hL => ?_⟩
     have h2 := h1.2
     rw [hL] at h2
     exact h2
  ·exact zer h.2 hm
theorem zff {ds : List (Nat × Dl)} {i : Nat} {v : SV} : ∀ {s : List (Nat × SV)}, get i (zl2 ds s) = some v -> get i s = some v /\ ∀ j d, (j, d) ∈ ds -> d.dst ≠ some i
 | [], h => by cases h
 | (t, x) :: r, h => by
  simp only [zl2] at h
  split at h
  ·rename_i hb
   obtain ⟨h1, h2⟩ := zff h
   have hne : i ≠ t := fun e1 => by
    subst e1
    obtain ⟨p, hp, hq⟩ := List.any_eq_true.1 hb
    exact h2 p.1 p.2 hp (by simpa using hq)
   exact ⟨by rw [zbw hne]; exact h1, h2⟩
  ·rename_i hb
   rcases zah h with ⟨rfl, rfl⟩ | ⟨hne, h⟩
   ·refine ⟨za4 _ _ _, fun j d hd e1 => ?_⟩
    have : ds.any (fun p => p.2.dst == some i) = true := List.any_eq_true.2 ⟨(j, d), hd, by simpa using e1⟩
    rw [this] at hb
    cases hb
   ·obtain ⟨h1, h2⟩ := zff h
    exact ⟨by rw [zbw hne]; exact h1, h2⟩
theorem zg6 {k : Nat} {d d' : Dl} : ∀ {ds : List (Nat × Dl)}, zc4 (zg8 ds) = true -> (k, d) ∈ ds -> (k, d') ∈ ds -> d = d'
 | p :: r, h, h1, h2 => by
  simp only [zg8, List.map_cons, zc4, Bool.and_eq_true] at h
  have hno : ∀ x, (p.1, x) ∉ r := fun x hx => by
   have := zf5 (x := p.1) (l := r.map (·.1)) (List.mem_map.2 ⟨_, hx, rfl⟩)
   rw [this] at h
   simp at h
  rcases List.mem_cons.1 h1 with e1 | h1
  ·rcases List.mem_cons.1 h2 with e2 | h2
   ·rw [<- e1] at e2
    cases e2
    rfl
   ·rw [<- e1] at hno
    exact absurd h2 (hno _)
  ·rcases List.mem_cons.1 h2 with e2 | h2
   ·rw [<- e2] at hno
    exact absurd h1 (hno _)
   ·exact zg6 h.2 h1 h2
theorem zdz {ops : Array Oper} (Tb : zfg ops) {listed : Array Bool} (hsz : listed.size = ops.size) (hr : Region.ready .any ops listed = []) : ∀ k, k < ops.size -> listed.getD k false = true := by
 intro k
 induction k using Nat.strongRecOn with
 | _ k ih =>
  intro hk
  cases hu : listed.getD k false with
  | true => rfl
  | false =>
   exfalso
   have hmem : k ∈ Region.ready .any ops listed := mem_ready.2 ⟨by simpa [Array.getD_eq_getD_getElem?, hsz, hk] using hu, ops[k], Array.getElem?_eq_getElem hk, fun e he hbd => by
    have hlt := Tb.back (Array.getElem?_eq_getElem hk) e he hbd
    exact ih e.on hlt (Nat.lt_trans hlt hk)⟩
   rw [hr] at hmem
   cases hmem
theorem zkz {N : Nat} {st' : St} {s : List (Nat × SV)} {dst : Option Nat} {v u : SV} {i : Nat} (h : get i (({ st' with s := s } : St).put N dst v).s = some u) : (dst = some i /\ i < N /\ u = v) \/ (get i s = some u /\ (dst = some i -> ¬ i < N)) := by
 unfold St.put at h
 split at h
 ·exact .inr ⟨h, fun e1 => (by cases e1)⟩
 ·rename_i t
  split at h
  ·rename_i hb
   rw [Nat.blt_eq] at hb
   rcases zah h with ⟨rfl, rfl⟩ | ⟨hne, h⟩
   ·exact .inl ⟨rfl, hb, rfl⟩
   ·exact .inr ⟨h, fun e1 => absurd (Option.some.inj e1).symm hne⟩
  ·rename_i hb
   refine .inr ⟨h, fun e1 hlt => ?_⟩
   rw [Option.some.inj e1, ] at hb
   rw [<- Nat.blt_eq] at hlt
   rw [hlt] at hb
   cases hb
theorem zk7 (N : Nat) (st' : St) (dst : Option Nat) (v : SV) : (st'.put N dst v).m = st'.m /\ (st'.put N dst v).k = st'.k /\ (st'.put N dst v).f = st'.f /\ (st'.put N dst v).b = st'.b := by
 unfold St.put
 split
 ·exact ⟨rfl, rfl, rfl, rfl⟩
 ·split <;> exact ⟨rfl, rfl, rfl, rfl⟩
section
variable {P : Program} {T : Tab} {cx : Cx} {ops : Array Oper} {tb C : List Nat} {ds : List (Nat × Dl)} {K : Exit -> St -> Prop}
theorem zvh (hT : T.Ok P) (Tb : zfg ops) (hbit : ∀ k j, bef ops k j = zay tb k j) (hcov : zl8 ops.size C (zg8 ds) = true) (hkeys : zc4 (zg8 ds) = true) (hCb : ∀ i ∈ C, i < ops.size) (hdis : ∀ k d, (k, d) ∈ ds -> k ∉ C) : ∀ (fuel : Nat) (listed : Array Bool) (n : Nat) (L : List Nat) (e : Env) (st : St) (a : Act) (w : World),
  listed.size = ops.size -> listed.toList.count false <= fuel -> (∀ k, k < ops.size -> listed.getD k false = true -> ∀ j, j < ops.size -> bef ops k j = true -> listed.getD j false = true) ->
  (∀ i, i ∈ C -> (hasN i L = true ↔ listed.getD i false = true)) -> (∀ i, i ∈ L -> listed.getD i false = true /\ i < ops.size) ->
  cx.n0 = st.b -> a.tmps.size = cx.n -> a.defers = cx.d -> Mem cx e st.m st.k st.f w ->
  (∀ i v, get i st.s = some v -> v.lt st.k /\ a.tmps[i]? = some (v.real e) /\ ∀ j d, (j, d) ∈ ds -> d.dst ≠ some i) ->
  (∀ k d, (k, d) ∈ ds -> listed.getD k false = true -> d.v.lt st.k /\ ∀ t, d.dst = some t -> t < cx.n -> a.tmps[t]? = some (d.v.real e)) ->
  cgo P T cx.n ops tb C ds (K .normal) (fun ch st => K (.panic ch) st) n L st -> wpAny P .any ops (Post cx K) fuel listed a w := by
 intro fuel
 have main : ∀ (listed : Array Bool) (n : Nat) (L : List Nat) (e : Env) (st : St) (a : Act) (w : World), (∀ k, k < ops.size -> listed.getD k false = true) ->
   (∀ i, i ∈ C -> (hasN i L = true ↔ listed.getD i false = true)) -> cx.n0 = st.b -> a.tmps.size = cx.n -> a.defers = cx.d -> Mem cx e st.m st.k st.f w ->
   (∀ i v, get i st.s = some v -> v.lt st.k /\ a.tmps[i]? = some (v.real e) /\ ∀ j d, (j, d) ∈ ds -> d.dst ≠ some i) ->
   (∀ k d, (k, d) ∈ ds -> listed.getD k false = true -> d.v.lt st.k /\ ∀ t, d.dst = some t -> t < cx.n -> a.tmps[t]? = some (d.v.real e)) ->
   cgo P T cx.n ops tb C ds (K .normal) (fun ch st => K (.panic ch) st) n L st -> Post cx K .normal a w := by
  intro listed n L e st a w hall hLC hb has had hm hsl hds hvc
  unfold cgo at hvc
  obtain ⟨hstab, hvc⟩ := hvc
  have hCall : C.all (fun i => hasN i L) = true := List.all_eq_true.2 fun i hi => (hLC i hi).2 (hall i (hCb i hi))
  rw [hCall] at hvc
  refine ⟨e, _, hvc, hb, has, had, fun i v hi => ?_, hm⟩
  have hi : get i (selS cx.n ds ++ st.s) = some v := hi
  rw [zal] at hi
  split at hi
  ·rename_i v' hv'
   cases hi
   obtain ⟨j, d, h1, h2, h3, rfl⟩ := zcf hv'
   obtain ⟨o, ho, _⟩ := zer hstab h1
   obtain ⟨h4, h5⟩ := hds j d h1 (hall j (Array.getElem?_eq_some_iff.1 ho).1)
   exact ⟨h4, h5 i h2 h3⟩
  ·obtain ⟨h4, h5, _⟩ := hsl i v hi
   exact ⟨h4, h5⟩
 induction fuel with
 | zero =>
  intro listed n L e st a w hsz hcnt hcl hLC hL hb has had hm hsl hds hvc
  have hall : ∀ k, k < ops.size -> listed.getD k false = true := fun k hk => by
   cases hu : listed.getD k false with
   | true => rfl
   | false =>
    exfalso
    have : false ∈ listed.toList := by
     have h2 : listed[k]'(by omega) = false := by simpa [Array.getD_eq_getD_getElem?, hsz, hk] using hu
     rw [<- h2]
     exact Array.getElem_mem_toList (h := by omega)
    have := List.count_pos_iff.2 this
    omega
  refine ⟨?_, main listed n L e st a w hall hLC hb has had hm hsl hds hvc⟩
  refine List.eq_nil_iff_forall_not_mem.2 (fun i hi => ?_)
  obtain ⟨h1, o, ho, _⟩ := mem_ready.1 hi
  have hlt : i < ops.size := (Array.getElem?_eq_some_iff.1 ho).1
  have h3 : listed.getD i false = false := by simpa [Array.getD_eq_getD_getElem?, hsz, hlt] using h1
  rw [hall i hlt] at h3
  cases h3
 | succ fuel ih =>
  intro listed n L e st a w hsz hcnt hcl hLC hL hb has had hm hsl hds hvc
  refine ⟨fun hr => main listed n L e st a w (zdz Tb hsz hr) hLC hb has had hm hsl hds hvc, fun i hi => ?_⟩
  obtain ⟨h1, o, ho, hall⟩ := mem_ready.1 hi
  have hlt : i < ops.size := (Array.getElem?_eq_some_iff.1 ho).1
  have hun : listed.getD i false = false := by simpa [Array.getD_eq_getD_getElem?, hsz, hlt] using h1
  have hpre : ∀ j, j < ops.size -> bef ops i j = true -> listed.getD j false = true := by
   intro j hj hbj
   obtain ⟨_, ed, he, hbd, h2⟩ := Tb.close ho hj hbj
   have hle := hall ed he hbd
   rcases h2 with rfl | h2
   ·exact hle
   ·exact hcl ed.on (Nat.lt_trans (Tb.back ho ed he hbd) hlt) hle j hj h2
  have hset : ∀ j d, (listed.setIfInBounds i true).getD j d = if j = i then true else listed.getD j d := by
   intro j d
   by_cases h : j = i
   ·subst h
    rw [if_pos rfl]
    simp [Array.getD_eq_getD_getElem?, hsz, hlt]
   ·rw [if_neg h, getD_set_ne d (Ne.symm h)]
  have hcnt2 : (listed.setIfInBounds i true).toList.count false <= fuel := by
   have h2 : listed[i]'(by omega) = false := by simpa [Array.getD_eq_getD_getElem?, hsz, hlt] using h1
   have h3 : (listed.setIfInBounds i true).toList.count false + 1 = listed.toList.count false := by
    rw [Array.toList_setIfInBounds, List.count_set (by simpa using (by omega : i < listed.size))]
    have : listed.toList[i]'(by simpa using (by omega : i < listed.size)) = false := by simpa using h2
    have hp : 0 < listed.toList.count false := List.count_pos_iff.2 (by rw [<- h2]; exact Array.getElem_mem_toList (h := by omega))
    rw [this]
    simp only [beq_self_eq_true, if_true]
    have h5 : (true == false) = false := rfl
    rw [h5]
    simp only [Bool.false_eq_true, if_false]
    omega
   omega
  have hcl2 : ∀ k, k < ops.size -> (listed.setIfInBounds i true).getD k false = true -> ∀ j, j < ops.size -> bef ops k j = true -> (listed.setIfInBounds i true).getD j false = true := by
   intro k hk hlk j hj hbj
   rw [hset] at hlk ⊢
   by_cases hji : j = i
   ·rw [if_pos hji]
   ·rw [if_neg hji]
    by_cases hki : k = i
    ·subst hki; exact hpre j hj hbj
    ·rw [if_neg hki] at hlk
     exact hcl k hk hlk j hj hbj
  have hvc0 := hvc
  unfold cgo at hvc
  obtain ⟨hstab, hvc⟩ := hvc
  have hdsz : ∀ {j d}, (j, d) ∈ ds -> j < ops.size /\ d.dst = zbk ops j := fun hj => by
   obtain ⟨oj, hoj, _, hd, _⟩ := zer hstab hj
   exact ⟨(Array.getElem?_eq_some_iff.1 hoj).1, by rw [hd]; simp [zbk, hoj]⟩
  have hsat : Sat cx e (rst cx.n ops tb ds i o st) a w := by
   refine ⟨hb, has, had, fun t v ht => ?_, hm⟩
   obtain ⟨_, ht⟩ := zdn ht
   rw [zal] at ht
   split at ht
   ·rename_i v' hv'
    cases ht
    obtain ⟨j, d, h1, h2, h3, rfl⟩ := zcf hv'
    obtain ⟨h4, h5⟩ := zei.1 h1
    obtain ⟨h6, h7⟩ := hds j d h4 (hpre j (hdsz h4).1 (by rw [hbit]; exact h5))
    exact ⟨h6, h7 t h2 h3⟩
   ·obtain ⟨h4, h5, _⟩ := hsl t v ht
    exact ⟨h4, h5⟩
  have hdst : zbk ops i = o.dst := by simp [zbk, ho]
  unfold wpOp
  rw [ho]
  simp only
  by_cases hik : ∃ d, (i, d) ∈ ds
  ·obtain ⟨d, hd⟩ := hik
   obtain ⟨o', ho', hg, hdd, hsg⟩ := zer hstab hd
   rw [ho] at ho'
   cases ho'
   have hno : L.any (fun c => zay tb c i) = false := by
    rw [<- Bool.not_eq_true]
    intro hx
    obtain ⟨c, hc, hbc⟩ := List.any_eq_true.1 hx
    obtain ⟨h2, h3⟩ := hL c hc
    have := hcl c h3 h2 i hlt (by rw [hbit]; exact hbc)
    rw [hun] at this
    cases this
   have hsg := hsg hno
   have hok := zfc (o := o) hT hsat
   rw [if_pos (zaz hg _)]
   refine .inl ?_
   unfold Oper.wp
   unfold zpn at hsg
   split at hsg
   ·rename_i u hu
    rw [hu] at hok
    obtain ⟨h2, h3⟩ := hok
    rw [hsg] at h2 h3
    have h3 : (execOp a.eval o).run P w = .ok (.value (d.v.real e)) w := h3
    rw [h3]
    refine ih (listed.setIfInBounds i true) n L e st (a.put o.dst (d.v.real e)) w (by simpa using hsz) hcnt2 hcl2 (fun c hc => ?_) (fun c hc => ?_) hb (by rw [zc1]; exact has) (by rw [zbu]; exact had) hm (fun t v ht => ?_) (fun k d' hk hlk => ?_) hvc0
    ·rw [hset]
     by_cases hci : c = i
     ·subst hci
      exact absurd hc (hdis _ _ hd)
     ·rw [if_neg hci]
      exact hLC c hc
    ·obtain ⟨h4, h5⟩ := hL c hc
     refine ⟨?_, h5⟩
     rw [hset]
     split
     ·rfl
     ·exact h4
    ·obtain ⟨h4, h5, h6⟩ := hsl t v ht
     refine ⟨h4, ?_, h6⟩
     rw [za0, if_neg (fun e1 => h6 i d hd (hdd.trans e1))]
     exact h5
    ·rw [hset] at hlk
     by_cases hki : k = i
     ·subst hki
      rw [zg6 hkeys hk hd]
      refine ⟨h2, fun t ht hlt2 => ?_⟩
      rw [za0, if_pos (hdd.symm.trans ht), if_pos (by rw [has]; exact hlt2)]
     ·rw [if_neg hki] at hlk
      obtain ⟨h4, h5⟩ := hds k d' hk hlk
      refine ⟨h4, fun t ht hlt2 => ?_⟩
      rw [za0, if_neg (fun e1 => hki (Tb.uniq hlt (hdsz hk).1 (by rw [<- (hdsz hk).2]; exact ht) (by rw [hdst]; exact e1)))]
      exact h5 t ht hlt2
   ·exact hsg.elim
  ·have hiC : i ∈ C := by
    have h2 := List.all_eq_true.1 hcov i (List.mem_range.2 hlt)
    rw [Bool.or_eq_true] at h2
    rcases h2 with h2 | h2
    ·exact zbj.1 h2
    ·obtain ⟨p, hp, rfl⟩ := List.mem_map.1 (zbj.1 h2)
     exact absurd ⟨p.2, hp⟩ hik
   have hiL : hasN i L = false := by
    rw [<- Bool.not_eq_true]
    intro hx
    have := (hLC i hiC).1 hx
    rw [hun] at this
    cases this
   have hnall : C.all (fun i => hasN i L) = false := by
    rw [<- Bool.not_eq_true]
    intro hx
    have := List.all_eq_true.1 hx i hiC
    rw [hiL] at this
    cases this
   rw [hnall] at hvc
   simp only at hvc
   cases n with
   | zero => exact hvc.elim
   | succ n =>
    have hrdy : i ∈ zjn C L tb := by
     refine List.mem_filter.2 ⟨hiC, ?_⟩
     rw [hiL, Bool.not_false, Bool.true_and]
     refine List.all_eq_true.2 fun j hj => ?_
     rw [Bool.or_eq_true, Bool.not_eq_true']
     cases hbj : zay tb i j with
     | false => exact .inl rfl
     | true => exact .inr ((hLC j hj).2 (hpre j (hCb j hj) (by rw [hbit]; exact hbj)))
    have hstep := zgt hvc hrdy
    rw [ho] at hstep
    simp only at hstep
    split at hstep
    ·exact hstep.elim
    ·rename_i hg
     rw [if_pos (zaz hg _)]
     refine .inl (zlb hT hsat (fun ch e' st' w' hX hS' => ⟨e', st', hX, hS'⟩) (fun e' st' v w' hK he hk hv hbs hm' => ?_) hstep)
     have hk : st.k <= st'.k := hk
     have he : e.eqTo st.k e' := he
     obtain ⟨p1, p2, p3, p4⟩ := zk7 cx.n ({ st' with s := st.s } : St) o.dst v
     refine ih (listed.setIfInBounds i true) n (i :: L) e' _ (a.put o.dst (v.real e')) w' (by simpa using hsz) hcnt2 hcl2 (fun c hc => ?_) (fun c hc => ?_) (by rw [p4]; exact hb.trans hbs.symm) (by rw [zc1]; exact has) (by rw [zbu]; exact had) (by rw [p1, p2, p3]; exact hm') (fun t u ht => ?_) (fun k d' hkd hlk => ?_) hK
     ·rw [hset, zbj, List.mem_cons]
      by_cases hci : c = i
      ·rw [if_pos hci]
       simp [hci]
      ·rw [if_neg hci, <- hLC c hc, zbj]
       simp [hci]
     ·rw [hset]
      rcases List.mem_cons.1 hc with rfl | hc
      ·rw [if_pos rfl]
       exact ⟨rfl, hlt⟩
      ·obtain ⟨h4, h5⟩ := hL c hc
       refine ⟨?_, h5⟩
       split
       ·rfl
       ·exact h4
     ·rw [p2]
      rcases zkz ht with ⟨h2, h3, rfl⟩ | ⟨h2, h3⟩
      ·refine ⟨hv, ?_, fun j d hj e1 => hik ⟨d, ?_⟩⟩
       ·rw [za0, if_pos h2, if_pos (by rw [has]; exact h3)]
       ·have := Tb.uniq hlt (hdsz hj).1 (by rw [<- (hdsz hj).2]; exact e1) (by rw [hdst]; exact h2)
        rw [this] at hj
        exact hj
      ·obtain ⟨h4, h5, h6⟩ := hsl t u h2
       refine ⟨SV.lt_mono hk h4, ?_, h6⟩
       rw [SV.real_eq he h4]
       rw [za0]
       split
       ·rename_i e1
        have h7 := h3 e1
        rw [Array.getElem?_eq_none (by rw [has]; omega)] at h5
        cases h5
       ·exact h5
     ·rw [p2]
      rw [hset] at hlk
      have hki : k ≠ i := fun e1 => hik ⟨d', e1 ▸ hkd⟩
      rw [if_neg hki] at hlk
      obtain ⟨h4, h5⟩ := hds k d' hkd hlk
      refine ⟨SV.lt_mono hk h4, fun t ht hlt2 => ?_⟩
      rw [SV.real_eq he h4, za0, if_neg (fun e1 => hki (Tb.uniq hlt (hdsz hkd).1 (by rw [<- (hdsz hkd).2]; exact ht) (by rw [hdst]; exact e1)))]
      exact h5 t ht hlt2
theorem zwf {e : Env} {st : St} {a : Act} {w : World} (hT : T.Ok P) (hS : Sat cx e st a w) {id : Nat} (h : zl5 P T cx.n ops (K .normal) (fun ch st => K (.panic ch) st) st) : (Code.region id ops true).wp P (Post cx K) a w := by
 obtain ⟨tb, C, ds, htb, hlen, htab, htr, hcov, hkeys, hCb, hdis, hgo⟩ := h.ex
 have Tb := zfw htab
 have hbit : ∀ k j, bef ops k j = zay tb k j := by
  intro k j
  unfold bef zay
  rw [<- htb]
  congr 1
  simp [Array.getD_eq_getD_getElem?, List.getD]
 refine wp_region_any hT.mixed (zvh hT Tb hbit hcov hkeys (zfs hCb) (fun k d hk hc => ?_) _ _ C.length [] e { st with s := zl2 ds st.s } a _ (by simp) (by simp) ?_ ?_ ?_ hS.base hS.size hS.defers (hS.mem.later ⟨rfl, rfl, rfl, Nat.le_refl _, fun _ _ => rfl⟩) ?_ ?_ hgo)
 ·have := List.all_eq_true.1 hdis k (List.mem_map.2 ⟨_, hk, rfl⟩)
  rw [zf5 hc] at this
  cases this
 ·intro k hk hlk
  rw [zbc] at hlk
  cases hlk
 ·intro i hi
  rw [zbc]
  simp [hasN]
 ·intro i hi
  cases hi
 ·intro i v hi
  obtain ⟨h1, h2⟩ := zff hi
  exact ⟨(hS.slots i v h1).1, (hS.slots i v h1).2, h2⟩
 ·intro k d hk hlk
  rw [zbc] at hlk
  cases hlk
end
end Go.Proofs.Sym
end
section
set_option linter.unusedVariables false
set_option linter.unusedSimpArgs false
namespace Go.Proofs.Sym
open Go.RowKit Go.Proofs.Base Go.Proofs.Mono
structure Ent (st st' : St) : Prop where
 run : ∀ (cx : Cx) (e : Env) (a : Act) (w : World), Sat cx e st a w -> ∃ e', Sat cx e' st' a w
structure zaax (body : (Exit -> St -> Prop) -> St -> Prop) (K : Exit -> St -> Prop) (st : St) : Prop where
 ex : ∃ (X : Type) (Ok : X -> Prop) (s : X -> St) (μ : X -> Nat), (∃ x, Ok x /\ Ent st (s x)) /\
  ∀ x, Ok x -> body (fun ex st' => match ex with
   | .normal => ∃ x', Ok x' /\ μ x' < μ x /\ Ent st' (s x')
   | ex => K ex st') (s x)
structure zai (P : Program) (N : Nat) (c : Code) (K : Exit -> St -> Prop) (st : St) : Prop where
 run : ∀ (cx : Cx) (e : Env) (a : Act) (w : World), cx.n = N -> Sat cx e st a w -> c.wp P (Post cx K) a w
def zqe : Code -> Option Nat
 | .region id _ _ => some id
 | .seq x _ => zqe x
 | .block _ c => zqe c
 | .loop c => zqe c
 | _ => none
def zaar (z : List Nat) (c : Code) : Bool := match zqe c with
 | some id => hasN id z
 | none => false
def svc (P : Program) (T : Tab) (N : Nat) (z : List Nat) : Code -> (Exit -> St -> Prop) -> St -> Prop
 | .skip, K, st => K .normal st
 | .label _, K, st => K .normal st
 | .region _ ops draw, K, st => match draw with
  | false => sops P T N ops (K .normal) (fun ch st => K (.panic ch) st) ops.toList st
  | true => zx2 P T N ops (K .normal) (fun ch st => K (.panic ch) st) st \/ zl5 P T N ops (K .normal) (fun ch st => K (.panic ch) st) st
 | .seq x y, K, st => svc P T N z x (fun ex st' => match ex with
   | .normal => match zaar z y with
    | true => zai P N y K st'
    | false => svc P T N z y K st'
   | ex => K ex st') st
 | .cond c x y, K, st => match c with
  | .tmp t => match get t st.s with
   | some (.one (.v (.bool b))) => zmt b (svc P T N z x K { st with s := (t, .one (.v (.bool true))) :: st.s }) (svc P T N z y K { st with s := (t, .one (.v (.bool false))) :: st.s })
   | _ => False
  | .const (.bool b) => zmt b (svc P T N z x K st) (svc P T N z y K st)
  | _ => False
 | .block id c, K, st => svc P T N z c (fun ex st' => match ex with
   | .exit j => match Nat.beq j id with
    | true => K .normal st'
    | false => K (.exit j) st'
   | ex => K ex st') st
 | .loop c, K, st => zaax (svc P T N z c) K st
 | .exit id, K, st => K (.exit id) st
 | .ret, K, st => K .ret st
 | _, _, _ => False
theorem zz8 {p : Nat -> Prop} (h : ∃ n, p n) : ∃ n, p n /\ ∀ m, p m -> n <= m := by
 obtain ⟨n, hn⟩ := h
 induction n using Nat.strongRecOn with
 | _ n ih =>
  by_cases hex : ∃ m, m < n /\ p m
  ·obtain ⟨m, hm, hpm⟩ := hex
   exact ih m hm hpm
  ·exact ⟨n, hn, fun m hm => Nat.le_of_not_lt fun hlt => hex ⟨m, hlt, hm⟩⟩
open Classical in
theorem zpz {P : Program} {c : Code} {Q : Exit -> Act -> World -> Prop} (I : Nat -> Act -> World -> Prop) {a : Act} {w : World} (h0 : ∃ n, I n a w)
  (round : ∀ n a w, I n a w -> c.wp P (Exit.then (fun a' w' => ∃ n', n' < n /\ I n' a' w') Q) a w) : (Code.loop c).wp P Q a w := by
 have hl : ∀ a w, (∃ n, I n a w) -> ∃ n, I n a w /\ ∀ m, I m a w -> n <= m := fun a w h => zz8 h
 refine wp_loop (fun a w => ∃ n, I n a w) (fun a w => if h : ∃ n, I n a w then Classical.choose (hl a w h) else 0) h0 fun a w h => ?_
 obtain ⟨h1, h2⟩ := Classical.choose_spec (hl a w h)
 refine wp_mono (round _ a w h1) fun ex a' w' hq => ?_
 cases ex with
 | normal =>
  obtain ⟨n', hlt, hI⟩ := hq
  refine ⟨⟨n', hI⟩, ?_⟩
  rw [dif_pos ⟨n', hI⟩, dif_pos h]
  exact Nat.lt_of_le_of_lt ((Classical.choose_spec (hl a' w' ⟨n', hI⟩)).2 n' hI) hlt
 | _ => exact hq
section
variable {P : Program} {T : Tab} {N : Nat} {z : List Nat} {K : Exit -> St -> Prop} {st : St}
theorem zai.region (hT : T.Ok P) {id : Nat} {ops : Array Oper} {draw : Bool} (h : svc P T N z (.region id ops draw) K st) : zai P N (.region id ops draw) K st := by
 refine ⟨fun cx e a w hn hS => ?_⟩
 subst hn
 unfold svc at h
 cases draw with
 | true => exact h.elim (zzy hT hS) (zwf hT hS)
 | false => exact wp_region_list (znu hT ops.toList e st a w hS h)
theorem zai.seq {x y : Code} (h : zai P N x (fun ex st' => match ex with | .normal => zai P N y K st' | ex => K ex st') st) : zai P N (.seq x y) K st := by
 refine ⟨fun cx e a w hn hS => wp_seq (wp_mono (h.run cx e a w hn hS) fun ex a' w' hq => ?_)⟩
 obtain ⟨e', st', hK, hS'⟩ := hq
 cases ex with
 | normal => exact hK.run cx e' a' w' hn hS'
 | _ => exact ⟨e', st', hK, hS'⟩
theorem zai.mono {c : Code} {K' : Exit -> St -> Prop} (h : zai P N c K st) (hK : ∀ ex st', K ex st' -> K' ex st') : zai P N c K' st :=
 ⟨fun cx e a w hn hS => wp_mono (h.run cx e a w hn hS) fun _ _ _ ⟨e', st', h1, h2⟩ => ⟨e', st', hK _ _ h1, h2⟩⟩
theorem zai.ent {c : Code} {st' : St} (he : Ent st st') (h : zai P N c K st') : zai P N c K st :=
 ⟨fun cx e a w hn hS => let ⟨e', hS'⟩ := he.run cx e a w hS; h.run cx e' a w hn hS'⟩
theorem zai.cond_tmp {t : Nat} {x y : Code} {b : Bool} (hg : get t st.s = some (.one (.v (.bool b)))) (h1 : b = true -> zai P N x K { st with s := (t, .one (.v (.bool true))) :: st.s }) (h2 : b = false -> zai P N y K { st with s := (t, .one (.v (.bool false))) :: st.s }) : zai P N (.cond (.tmp t) x y) K st := by
 refine ⟨fun cx e a w hn hS => ?_⟩
 have hev : a.eval (.tmp t) = .bool b := (hS.ev (x := .tmp t) hg).2
 refine wp_cond_split hev (fun hb => ?_) (fun hb => ?_)
 ·subst hb
  exact (h1 rfl).run cx e a w hn (zdi hS hg rfl trivial)
 ·subst hb
  exact (h2 rfl).run cx e a w hn (zdi hS hg rfl trivial)
theorem zai.block {id : Nat} {c : Code} (h : zai P N c (fun ex st' => match ex with | .exit j => (match Nat.beq j id with | true => K .normal st' | false => K (.exit j) st') | ex => K ex st') st) : zai P N (.block id c) K st := by
 refine ⟨fun cx e a w hn hS => wp_block (wp_mono (h.run cx e a w hn hS) fun ex a' w' hq => ?_)⟩
 obtain ⟨e', st', hK, hS'⟩ := hq
 cases ex with
 | exit j =>
  simp only [Exit.inBlock]
  simp only at hK
  split at hK
  ·rename_i hb
   rw [if_pos (by rw [<- Nat.beq_eq]; exact hb)]
   exact ⟨e', st', hK, hS'⟩
  ·rename_i hb
   rw [if_neg (fun e1 => by rw [e1, Nat.beq_refl] at hb; cases hb)]
   exact ⟨e', st', hK, hS'⟩
 | _ => exact ⟨e', st', hK, hS'⟩
theorem zai.loop {c : Code} (X : Type) (Ok : X -> Prop) (s : X -> St) (μ : X -> Nat) (h0 : ∃ x, Ok x /\ Ent st (s x))
  (h : ∀ x, Ok x -> zai P N c (fun ex st' => match ex with | .normal => ∃ x', Ok x' /\ μ x' < μ x /\ Ent st' (s x') | ex => K ex st') (s x)) : zai P N (.loop c) K st := by
 refine ⟨fun cx e a w hn hS => ?_⟩
 refine zpz (fun n a w => ∃ x e, Ok x /\ μ x = n /\ Sat cx e (s x) a w) ?_ ?_
 ·obtain ⟨x, hx, he⟩ := h0
  obtain ⟨e', hS'⟩ := he.run cx e a w hS
  exact ⟨μ x, x, e', hx, rfl, hS'⟩
 ·rintro n a w ⟨x, e, hx, rfl, hS⟩
  refine wp_mono ((h x hx).run cx e a w hn hS) fun ex a' w' hq => ?_
  obtain ⟨e', st', hK, hS'⟩ := hq
  cases ex with
  | normal =>
   obtain ⟨x', hx', hlt, he'⟩ := hK
   obtain ⟨e'', hS''⟩ := he'.run cx e' a' w' hS'
   exact ⟨μ x', hlt, x', e'', hx', rfl, hS''⟩
  | _ => exact ⟨e', st', hK, hS'⟩
theorem zaf (hT : T.Ok P) (z : List Nat) : ∀ (c : Code) (K : Exit -> St -> Prop) (st : St), svc P T N z c K st -> zai P N c K st
 | .skip, K, st, h => ⟨fun cx e a w hn hS => wp_skip ⟨e, st, h, hS⟩⟩
 | .label _, K, st, h => ⟨fun cx e a w hn hS => wp_label ⟨e, st, h, hS⟩⟩
 | .region id ops draw, K, st, h => zai.region hT h
 | .seq x y, K, st, h => by
  unfold svc at h
  refine zai.seq ((zaf hT z x _ st h).mono fun ex st' hK => ?_)
  cases ex with
  | normal =>
   simp only at hK
   split at hK
   ·exact hK
   ·exact zaf hT z y K st' hK
  | _ => exact hK
 | .cond c x y, K, st, h => by
  unfold svc at h
  split at h
  ·rename_i t
   split at h
   ·rename_i b hb
    refine zai.cond_tmp hb (fun e1 => ?_) (fun e1 => ?_)
    ·subst e1
     exact zaf hT z x _ _ h
    ·subst e1
     exact zaf hT z y _ _ h
   ·exact h.elim
  ·rename_i b
   refine ⟨fun cx e a w hn hS => wp_cond_split (t := b) rfl (fun e1 => ?_) (fun e1 => ?_)⟩
   ·subst e1
    exact (zaf hT z x _ _ h).run cx e a w hn hS
   ·subst e1
    exact (zaf hT z y _ _ h).run cx e a w hn hS
  ·exact h.elim
 | .block id c, K, st, h => zai.block (zaf hT z c _ st h)
 | .loop c, K, st, h => by
  unfold svc at h
  obtain ⟨X, Ok, s, μ, h0, hr⟩ := h.ex
  exact zai.loop X Ok s μ h0 fun x hx => zaf hT z c _ _ (hr x hx)
 | .exit id, K, st, h => ⟨fun cx e a w hn hS => wp_exit ⟨e, st, h, hS⟩⟩
 | .ret, K, st, h => ⟨fun cx e a w hn hS => wp_ret ⟨e, st, h, hS⟩⟩
 | .rangeFunc .., _, _, h => h.elim
 | .scope _, _, _, h => h.elim
 | .goto _, _, _, h => h.elim
 | .refuse _, _, _, h => h.elim
end
def toTV : SV -> Option TV
 | .one x => some (.one x)
 | .agg xs => some (.agg xs)
 | .tup _ => none
def zjc (T : Tab) (st : St) : ResultVar -> Option SV
 | .tmp t => get t st.s
 | .cell t ty => match get t st.s, get ty T.ty with
  | some (.one (.p i o)), some ti => match get i st.m with
   | some (.cells _ cs) => ze3 ti cs o
   | _ => none
  | _, _ => none
def zgl (T : Tab) (st : St) (rs : List ResultVar) : Option SV := match rs with
 | [r] => zjc T st r
 | rs => match za1 (zjc T st) rs with
  | some vs => match za1 toTV vs with
   | some ts => some (.tup ts)
   | none => none
  | none => none
theorem zyh {v : SV} {t : TV} (h : toTV v = some t) (e : Env) : v.real e = t.real e := by
 unfold toTV at h
 split at h <;> cases h <;> rfl
section
variable {P : Program} {T : Tab} {cx : Cx} {e : Env} {st : St} {a : Act} {w : World}
def zhw (tmps : Array Value) : ResultVar -> Sem Value
 | .tmp t => pure (tmps.getD t undef)
 | .cell a t => do loadVar t (<- asAddr (tmps.getD a undef))
theorem zmg (hT : T.Ok P) (hS : Sat cx e st a w) {r : ResultVar} {v : SV} (h : zjc T st r = some v) : (zhw a.tmps r).run P w = .ok (v.real e) w := by
 cases r with
 | tmp t =>
  have h2 := (hS.ev (x := .tmp t) h).2
  simp only [Act.eval] at h2
  simp [zhw, h2]
 | cell t ty =>
  simp only [zjc] at h
  split at h
  ·rename_i i o ti hi hti
   split at h
   ·rename_i t' cs hj
    have h2 : a.tmps.getD t undef = .pointer (some ⟨e.blk i, o, none⟩) := (hS.ev (x := .tmp t) hi).2
    obtain ⟨h3, h4⟩ := zd7 h e (hS.mem.sc _ _ hj).2
    have hb := hS.mem.cells _ _ _ hj
    have hag := hT.isAgg hti w
    have hsz := hT.size hti w
    simp only [zhw, Sem.run_bind, h2, asAddr, Sem.run_pure, Result.andThen_ok]
    rcases h4 with ⟨ha, hle, hv2⟩ | ⟨ha, hv2⟩
    ·rw [ha] at hag
     rw [hv2, zcw (cs := ((reals e cs).drop o).take ti.size) hag (by rw [hsz]; simp [zcc]; omega) (fun l u hl => ?_)]
     rw [zbl, hb.cell]
     rw [List.getElem?_take] at hl
     split at hl
     ·rw [List.getElem?_drop] at hl
      simpa using hl
     ·cases hl
    ·rw [ha] at hag
     rw [zcv hag (v := v.real e) (by rw [hb.cell]; simpa using hv2)]
   ·cases h
  ·cases h
def tupv : List Value -> Value
 | [v] => v
 | vs => .tuple vs.toArray
theorem zku (fn : Func) (tmps : Array Value) (w : World) (vs : List Value) (h : (fn.results.toList.mapM (zhw tmps) : Sem (List Value)).run P w = .ok vs w) :
  (results fn tmps).run P w = .ok (tupv vs) w := by
 have hA : (fn.results.mapM (zhw tmps) : Sem (Array Value)).run P w = .ok vs.toArray w := by
  rw [Array.mapM_eq_mapM_toList, Sem.run_map, h]
  rfl
 have hsame : results fn tmps = (do let vs <- fn.results.mapM (zhw tmps); pure (if h : vs.size = 1 then vs[0] else .tuple vs)) := by
  unfold results
  have : (fun (x : ResultVar) => match x with | .tmp t => (pure (tmps.getD t undef) : Sem Value) | .cell a t => do loadVar t (<- asAddr (tmps.getD a undef))) = zhw tmps := by
   funext r
   cases r <;> rfl
  rw [<- this]
  rfl
 rw [hsame, Sem.run_bind, hA]
 simp only [Result.andThen_ok, Sem.run_pure]
 match vs with
 | [] => rfl
 | [v] => rfl
 | v :: u :: r => simp [tupv]
theorem zko (hT : T.Ok P) (hS : Sat cx e st a w) : ∀ {rs : List ResultVar} {vs : List SV}, za1 (zjc T st) rs = some vs -> (rs.mapM (zhw a.tmps) : Sem (List Value)).run P w = .ok (vs.map (SV.real e)) w
 | [], vs, h => by cases h; rfl
 | r :: rs, vs, h => by
  simp only [za1] at h
  split at h
  ·rename_i v vs' h1 h2
   cases h
   simp only [List.mapM_cons, Sem.run_bind, zmg hT hS h1, Result.andThen_ok, zko hT hS h2, Sem.run_pure, List.map_cons]
  ·cases h
theorem zg9 (hT : T.Ok P) (hS : Sat cx e st a w) {fn : Func} {v : SV} (h : zgl T st fn.results.toList = some v) : (results fn a.tmps).run P w = .ok (v.real e) w := by
 unfold zgl at h
 split at h
 ·rename_i r hr
  have h1 := zmg hT hS h
  have := zku (P := P) fn a.tmps w [v.real e] (by rw [hr]; simp only [List.mapM_cons, List.mapM_nil, Sem.run_bind, h1, Result.andThen_ok, Sem.run_pure])
  exact this
 ·rename_i rs hne
  split at h
  ·rename_i vs hvs
   split at h
   ·rename_i ts hts
    cases h
    have h1 := zko hT hS hvs
    have h2 := zku (P := P) fn a.tmps w _ h1
    have h3 : vs.map (SV.real e) = ts.map (TV.real e) := zch _ _ (fun x y hy => zyh hy e) hts
    rw [h2, h3]
    have hl : ts.length = fn.results.toList.length := by
     have : ∀ {α β : Type} {f : α -> Option β} {l : List α} {ys : List β}, za1 f l = some ys -> ys.length = l.length := by
      intro α β f l
      induction l with
      | nil => intro ys h; cases h; rfl
      | cons x r ih =>
       intro ys h
       simp only [za1] at h
       split at h
       ·rename_i h1 h2
        cases h
        simp [ih h2]
       ·cases h
     rw [this hts, this hvs]
    match ts, hl with
    | [], _ => rfl
    | [t], hl =>
     exfalso
     match hq : fn.results.toList, hl with
     | [r], _ => exact hne r hq
    | t :: u :: r, _ => rfl
   ·cases h
  ·cases h
end
def zfu : Nat -> List SV -> List (Nat × SV)
 | _, [] => []
 | i, v :: r => (i, v) :: zfu (i + 1) r
theorem zhc : ∀ {vs : List SV} {b i : Nat} {v : SV}, get i (zfu b vs) = some v -> b <= i /\ vs[i - b]? = some v
 | [], b, i, v, h => by cases h
 | u :: r, b, i, v, h => by
  rcases zah h with ⟨rfl, rfl⟩ | ⟨hne, h⟩
  ·exact ⟨Nat.le_refl _, by simp⟩
  ·obtain ⟨h1, h2⟩ := zhc h
   refine ⟨by omega, ?_⟩
   rw [show i - b = (i - (b + 1)) + 1 by omega]
   simpa using h2
structure Told (st : St) (v : SV) (R : Value -> Prop) (post : Value -> World -> Prop) : Prop where
 run : ∀ (cx : Cx) (e : Env) (w : World), (∀ g, ¬ cx.G g) -> Mem cx e st.m st.k st.f w -> R (v.real e) /\ post (v.real e) (hide cx.H w)
theorem Told.val {st : St} {x : Value} {R : Value -> Prop} (h : R x) : Told st (.one (.v x)) R (fun _ _ => True) := ⟨fun _ _ _ _ _ => ⟨h, trivial⟩⟩
def endK (T : Tab) (rs : List ResultVar) (R : Value -> Prop) (post : Value -> World -> Prop) : Exit -> St -> Prop
 | .normal, st => ∃ v, zgl T st rs = some v /\ Told st v R post
 | .ret, st => ∃ v, zgl T st rs = some v /\ Told st v R post
 | _, _ => False
theorem zar {P : Program} {T : Tab} (hT : T.Ok P) {f : FuncId} {fn : Func} {c : Code} (N : Nat) (rs : List ResultVar) (hf : P.funcs[f]? = some fn) (hN : fn.ntmps = N) (hrs : fn.results.toList = rs) (hn : (fn.name == "runtime.NumGoroutine") = false) (hb : fn.body = some c) (args : List Value) (hl : args.length <= N)
  {pre : World -> Prop} {R : Value -> Prop} {post : Value -> World -> Prop} (hpre : Up pre) (hpost : ∀ r, Up (post r))
  (h : zai P N c (endK T rs R post) { s := zfu 0 (args.map fun v => .one (.v v)), m := [], k := 0, f := [pre] }) : PCall P f args pre R post := by
 subst hN hrs
 refine ⟨⟨fn, hf, hn, by rw [hb]; rfl⟩, hpost, fun w H hH hp => calls_of_wp hf hb ?_⟩
 refine wp_mono (h.run ⟨w, fun _ => False, H, hH, fun _ h => h.elim, ⟨fun _ => 0, fun _ => (none, 0, 0)⟩, 0, fn.ntmps, []⟩ ⟨fun _ => 0, fun _ => (none, 0, 0)⟩ _ w rfl ?_) ?_
 ·refine ⟨rfl, by simp; omega, rfl, fun i v hi => ?_, ?_⟩
  ·obtain ⟨_, h2⟩ := zhc hi
   simp only [Nat.sub_zero, List.getElem?_map] at h2
   cases hq : args[i]? with
   | none => rw [hq] at h2; cases h2
   | some x =>
    rw [hq] at h2
    cases h2
    refine ⟨trivial, ?_⟩
    have hi := (List.getElem?_eq_some_iff.1 hq).1
    rw [Array.getElem?_append_left (by simpa using hi)]
    simpa [SV.real, SA.real] using hq
  ·have hat : ∀ {i g}, ¬ At ⟨fun _ => 0, fun _ => (none, 0, 0)⟩ [] i g := fun ⟨b, hb, _⟩ => by cases hb
   refine ⟨Fr.refl _ _, fun i hi => (by cases hi), Nat.le_refl _, fun i t cs hi => (by cases hi), fun i E z n xs hi => (by cases hi), fun i b hi => (by cases hi), fun i g hg => absurd hg hat, fun i j g hg => absurd hg hat, fun F hF => ?_, fun F hF => ?_⟩
   ·rw [List.mem_singleton.1 hF]
    exact hpre
   ·rw [List.mem_singleton.1 hF]
    refine hpre _ _ (zax fun g o hg hn => ⟨hg, fun hx => hn ?_⟩) hp
    rcases hx with hx | ⟨i, hx⟩
    ·exact hx
    ·exact absurd hx hat
 ·rintro ex a' w' ⟨e', st', hK, hS'⟩
  have fin : ∀ v, zgl T st' fn.results.toList = some v -> Told st' v R post -> a'.defers = [] /\ ∃ v, (results fn a'.tmps).run P w' = .ok v w' /\ ∃ r, Ending.returned v = .returned r /\ R r /\ post r (hide H w') /\ Below w.heap.size w w' := by
   intro v hv hfin
   obtain ⟨h1, h2⟩ := hfin.run _ e' w' (fun _ hg => hg) hS'.mem
   exact ⟨hS'.defers, _, zg9 hT hS' hv, _, rfl, h1, h2, hS'.mem.fr.below⟩
  cases ex with
  | normal => obtain ⟨v, hv, hfin⟩ := hK; exact fin v hv hfin
  | ret => obtain ⟨v, hv, hfin⟩ := hK; exact fin v hv hfin
  | _ => exact hK.elim
end Go.Proofs.Sym
end
