/- What the claim needs of SymU, Rf1, Mv12, Mv14, Mv13, Mv15, Mv16, in one text. -/
import Derived.RangeFuncNested
import Derived.RangeFuncCalls
import Derived.RangeFuncLeaves
import Derived.OrdersIn
import Derived.Test.YtmkpiekbpakigaaDoorDomf
import Derived.Test.YtmkpiekbpakigaaDoorDomh
section
set_option linter.unusedVariables false
set_option linter.unusedSimpArgs false
namespace Go.Proofs.Sym
open Go.RowKit Go.Proofs.Base Go.Proofs.Mono
def fw (r : Option Nat) : Fence := { Fence.wide with round := r }
theorem zkp {r : Option Nat} {n : Nat} {P : Program} {f : FuncId} {args : Array Value} {w : World} {R : Ending -> World -> Prop} (h : Calls P f args w R) : CallsIn (fw r) n P f args w R :=
 (callsIn_wide (n := n)).2 h
def zfe (o : Oper) : Bool := match o.op with
 | .defer _ => true
 | _ => false
theorem zd8 {o : Oper} (h : zfe o = false) : ∀ c, o.op ≠ .defer c := by
 intro c hc
 unfold zfe at h
 rw [hc] at h
 cases h
def ziz (ops : Array Oper) : Bool := ops.toList.all fun o => !zfe o
theorem zqz {ops : Array Oper} (h : ziz ops = true) {i : Nat} {o : Oper} (ho : ops[i]? = some o) : zfe o = false := by
 have := List.all_eq_true.1 h o (by rw [<- Array.getElem?_toList] at ho; exact List.mem_of_getElem? ho)
 simpa using this
section
variable {P : Program} {T : Tab} {cx : Cx} {e : Env} {st : St} {a : Act} {w : World}
theorem zwk {r : Option Nat} {n : Nat} (hT : T.Ok P) (hS : Sat cx e st a w) {o : Oper} {Kx : SV -> St -> Prop} {X : List PanicEntry -> St -> Prop} {next : Act -> World -> Prop} {Q : Exit -> Act -> World -> Prop}
  (hQ : ∀ ch e' st' w', X ch st' -> Sat cx e' st' a w' -> Q (.panic ch) a w')
  (hnext : ∀ e' st' v w', Kx v st' -> e.eqTo st.k e' -> st.k <= st'.k -> v.lt st'.k -> st'.b = st.b -> Mem cx e' st'.m st'.k st'.f w' -> next (a.put o.dst (v.real e')) w')
  (hd : zfe o = false) (h : sigK P (sig T st o) st Kx X) : o.wpIn (fw r) n P a w next Q := by
 have hok := zfc (o := o) hT hS
 refine ⟨fun _ _ => trivial, ?_⟩
 rw [Oper.semAt_eq _ _ _ (zd8 hd)]
 cases hsg : sig T st o with
 | bad => rw [hsg] at h; exact h.elim
 | det v =>
  rw [hsg] at h hok
  obtain ⟨h1, h2⟩ := hok
  rw [h2]
  exact hnext _ _ _ _ h (Env.eqTo.refl _ _) (Nat.le_refl _) h1 rfl hS.mem
 | new v t cs =>
  rw [hsg] at h hok
  obtain ⟨h1, h2, h3⟩ := hok
  rw [h3]
  exact hnext _ _ _ _ h (e.eqTo_blk _ _) (Nat.le_succ _) h1 rfl (hS.mem.new t cs h2)
 | pick ob v =>
  rw [hsg] at h hok
  obtain ⟨c, hc, hK⟩ := h
  obtain ⟨h1, h2⟩ := hok c hc
  rw [h2]
  exact hnext _ _ _ _ hK (Env.eqTo.refl _ _) (Nat.le_refl _) h1 rfl hS.mem
 | set i t cs =>
  rw [hsg] at h hok
  obtain ⟨⟨cs0, h1⟩, h2, w', h3, h4⟩ := hok
  rw [h3]
  exact hnext _ _ (.one (.v undef)) _ h (Env.eqTo.refl _ _) (Nat.le_refl _) trivial rfl (hS.mem.set h1 h2 h4.blk h4.far h4.os h4.tape h4.out h4.size)
 | setr ob i E z n xs =>
  rw [hsg] at h hok
  obtain ⟨hob, hK⟩ := h
  obtain ⟨⟨xs0, h1⟩, w', h3, h4⟩ := hok hob
  rw [h3]
  exact hnext _ _ (.one (.v undef)) _ hK (Env.eqTo.refl _ _) (Nat.le_refl _) trivial rfl (hS.mem.setr h1 h4.own h4.far h4.os h4.tape h4.out h4.size)
 | ask R F =>
  rw [hsg] at h hok
  obtain ⟨u, w', h1, h2, h3, h4, h5⟩ := hok (fun g => cx.H g \/ Own e st.m g) hS.mem.hid
  rw [h1]
  exact hnext _ _ (.one (.v u)) _ (h u h3) (Env.eqTo.refl _ _) (Nat.le_refl _) trivial rfl ((hS.mem.later h2).add (h4 u) h5)
 | grow ob old E z n xs =>
  rw [hsg] at h hok
  obtain ⟨c, hc, hK⟩ := h
  obtain ⟨v, w', h1, h2⟩ := hok.2 c hc
  rw [h1]
  have hm := hS.mem.grow old hok.1 h2.g h2.own h2.new
  have hr : (Value.slice v.1 v.2.1 v.2.2) = (SV.one (.row st.k)).real (e.setRow st.k v) := (Env.setRow_self e st.k v).symm
  rw [hr]
  exact hnext _ _ _ _ hK (e.eqTo_row _ _) (Nat.le_succ _) (Nat.lt_succ_self _) rfl hm
 | call f args =>
  rw [hsg] at h hok
  have h : zce P f args st Kx X := h
  obtain ⟨hent, hrun⟩ := h.run cx e w hS.mem hok.1
  rw [hok.2 hent]
  refine ⟨fun h => (by cases h), zkp (hrun.mono ?_)⟩
  rintro en w' ⟨e', st', he, hk, hs, hbs, hm, ⟨v, rfl, hv, hK⟩ | ⟨ch, rfl, hX⟩⟩
  ·exact hnext _ _ _ _ hK he hk hv hbs hm
  ·exact hQ _ _ _ _ hX (zd3 (v := .one (.v undef)) hS hs hbs trivial hm none)
 | pan v =>
  rw [hsg] at h hok
  have hok : (execOp a.eval o).run P w = .halt (.panic v) w := hok
  rw [hok]
  exact hQ _ _ _ _ h hS
theorem zhb {r : Option Nat} {n : Nat} (hT : T.Ok P) (hS : Sat cx e st a w) {o : Oper} {K : Exit -> St -> Prop} {K' : St -> Prop} {next : Act -> World -> Prop} {Q : Exit -> Act -> World -> Prop}
  (hQ : ∀ ch a w, Post cx K (.panic ch) a w -> Q (.panic ch) a w) (hnext : ∀ e' st' a' w', K' st' -> Sat cx e' st' a' w' -> next a' w')
  (hd : zfe o = false) (h : sigK P (sig T st o) st (fun v st' => K' (st'.put cx.n o.dst v)) (fun ch st' => K (.panic ch) st')) : o.wpIn (fw r) n P a w next Q := by
 have hok := zfc (o := o) hT hS
 refine ⟨fun _ _ => trivial, ?_⟩
 rw [Oper.semAt_eq _ _ _ (zd8 hd)]
 cases hsg : sig T st o with
 | bad => rw [hsg] at h; exact h.elim
 | det v =>
  rw [hsg] at h hok
  obtain ⟨h1, h2⟩ := hok
  rw [h2]
  exact hnext _ _ _ _ h (zbq hS (Env.eqTo.refl _ _) (Nat.le_refl _) rfl rfl h1 hS.mem o.dst)
 | new v t cs =>
  rw [hsg] at h hok
  obtain ⟨h1, h2, h3⟩ := hok
  rw [h3]
  exact hnext _ _ _ _ h (zbq (st' := { st with m := (st.k, .cells t cs) :: st.m, k := st.k + 1 }) hS (e.eqTo_blk _ _) (Nat.le_succ _) rfl rfl h1 (hS.mem.new t cs h2) o.dst)
 | pick ob v =>
  rw [hsg] at h hok
  obtain ⟨c, hc, hK⟩ := h
  obtain ⟨h1, h2⟩ := hok c hc
  rw [h2]
  exact hnext _ _ _ _ hK (zbq hS (Env.eqTo.refl _ _) (Nat.le_refl _) rfl rfl h1 hS.mem o.dst)
 | set i t cs =>
  rw [hsg] at h hok
  obtain ⟨⟨cs0, h1⟩, h2, w', h3, h4⟩ := hok
  rw [h3]
  exact hnext _ _ _ _ h (zbq (st' := { st with m := (i, .cells t cs) :: st.m }) (v := .one (.v undef)) hS (Env.eqTo.refl _ _) (Nat.le_refl _) rfl rfl trivial (hS.mem.set h1 h2 h4.blk h4.far h4.os h4.tape h4.out h4.size) o.dst)
 | setr ob i E z n xs =>
  rw [hsg] at h hok
  obtain ⟨hob, hK⟩ := h
  obtain ⟨⟨xs0, h1⟩, w', h3, h4⟩ := hok hob
  rw [h3]
  exact hnext _ _ _ _ hK (zbq (st' := { st with m := (i, .own E z n xs) :: st.m }) (v := .one (.v undef)) hS (Env.eqTo.refl _ _) (Nat.le_refl _) rfl rfl trivial (hS.mem.setr h1 h4.own h4.far h4.os h4.tape h4.out h4.size) o.dst)
 | ask R F =>
  rw [hsg] at h hok
  obtain ⟨u, w', h1, h2, h3, h4, h5⟩ := hok (fun g => cx.H g \/ Own e st.m g) hS.mem.hid
  rw [h1]
  exact hnext _ _ _ _ (h u h3) (zbq (st' := { st with f := F u :: st.f }) (v := .one (.v u)) hS (Env.eqTo.refl _ _) (Nat.le_refl _) rfl rfl trivial ((hS.mem.later h2).add (h4 u) h5) o.dst)
 | grow ob old E z n xs =>
  rw [hsg] at h hok
  obtain ⟨c, hc, hK⟩ := h
  obtain ⟨v, w', h1, h2⟩ := hok.2 c hc
  rw [h1]
  have hm := hS.mem.grow old hok.1 h2.g h2.own h2.new
  have hr : (Value.slice v.1 v.2.1 v.2.2) = (SV.one (.row st.k)).real (e.setRow st.k v) := (Env.setRow_self e st.k v).symm
  rw [hr]
  exact hnext _ _ _ _ hK (zbq (st' := { st with m := (st.k, .own E z (n c) (xs c)) :: kill old st.m, k := st.k + 1 }) (v := .one (.row st.k)) hS (e.eqTo_row _ _) (Nat.le_succ _) rfl rfl (Nat.lt_succ_self _) hm o.dst)
 | call f args =>
  rw [hsg] at h hok
  have h : zce P f args st (fun v st' => K' (st'.put cx.n o.dst v)) (fun ch st' => K (.panic ch) st') := h
  obtain ⟨hent, hrun⟩ := h.run cx e w hS.mem hok.1
  rw [hok.2 hent]
  refine ⟨fun h => (by cases h), zkp (hrun.mono ?_)⟩
  rintro en w' ⟨e', st', he, hk, hs, hbs, hm, ⟨v, rfl, hv, hK⟩ | ⟨ch, rfl, hX⟩⟩
  ·exact hnext _ _ _ _ hK (zd3 hS hs hbs hv hm o.dst)
  ·exact hQ _ _ _ ⟨e', st', hX, zd3 (v := .one (.v undef)) hS hs hbs trivial hm none⟩
 | pan v =>
  rw [hsg] at h hok
  have hok : (execOp a.eval o).run P w = .halt (.panic v) w := hok
  rw [hok]
  exact hQ _ _ _ ⟨e, st, h, hS⟩
theorem zpi {r : Option Nat} {n : Nat} (hT : T.Ok P) {ops : Array Oper} {K : Exit -> St -> Prop} : ∀ (rest : List Oper) (e : Env) (st : St) (a : Act) (w : World), (∀ o ∈ rest, zfe o = false) -> Sat cx e st a w ->
  sops P T cx.n ops (K .normal) (fun ch st => K (.panic ch) st) rest st -> wpListIn (fw r) n P ops (Post cx K) rest a w
 | [], e, st, a, w, _, hS, h => ⟨e, st, h, hS⟩
 | o :: rest, e, st, a, w, hd, hS, h => by
  have hd1 := hd o List.mem_cons_self
  have hrec : ∀ e' st' a' w', sops P T cx.n ops (K .normal) (fun ch st => K (.panic ch) st) rest st' -> Sat cx e' st' a' w' -> wpListIn (fw r) n P ops (Post cx K) rest a' w' := fun e' st' a' w' h' hS' => zpi hT rest e' st' a' w' (fun o ho => hd o (List.mem_cons_of_mem _ ho)) hS' h'
  unfold wpListIn
  unfold sops at h
  split at h
  ·rename_i hg
   rw [if_pos (zaz hg _)]
   exact zhb (K := K) hT hS (fun _ _ _ h => h) (fun e' st' a' w' h1 h2 => hrec e' st' a' w' h1 h2) hd1 h
  ·rename_i g want hg
   split at h
   ·exact h.elim
   ·rename_i t ht
    split at h
    ·rename_i b hb
     have hy := zcg ht hS hb
     have hsame : ∀ b', b = b' -> Sat cx e { st with s := (t, .one (.v (.bool b'))) :: st.s } a w := fun b' hbb => zdi hS hb (by rw [hbb]) trivial
     have hskip : ∀ b', b = b' -> sops P T cx.n ops (K .normal) (fun ch st => K (.panic ch) st) rest (({ st with s := (t, .one (.v (.bool b'))) :: st.s } : St).put cx.n o.dst (.one (.v undef))) -> wpListIn (fw r) n P ops (Post cx K) rest (a.put o.dst undef) w := by
      intro b' hbb h'
      exact hrec _ _ _ _ h' (zbq (v := .one (.v undef)) (hsame b' hbb) (Env.eqTo.refl _ _) (Nat.le_refl _) rfl rfl trivial hS.mem o.dst)
     cases want <;> cases b
     ·rw [if_pos (by simp [Region.wanted, hg, hy])]
      exact zhb (K := K) hT (hsame _ rfl) (fun _ _ _ h => h) (fun e' st' a' w' h1 h2 => hrec e' st' a' w' h1 h2) hd1 h
     ·rw [if_neg (by simp [Region.wanted, hg, hy])]
      exact ⟨fun _ _ => trivial, hskip _ rfl h⟩
     ·rw [if_neg (by simp [Region.wanted, hg, hy])]
      exact ⟨fun _ _ => trivial, hskip _ rfl h⟩
     ·rw [if_pos (by simp [Region.wanted, hg, hy])]
      exact zhb (K := K) hT (hsame _ rfl) (fun _ _ _ h => h) (fun e' st' a' w' h1 h2 => hrec e' st' a' w' h1 h2) hd1 h
    ·rename_i vs hb
     have hy : yielded ops a.tmps g = none := by
      unfold yielded
      rw [ht]
      simp only [Option.bind_some]
      rw [(hS.slots _ _ hb).2]
      rfl
     rw [if_neg (by simp [Region.wanted, hg, hy])]
     exact ⟨fun _ _ => trivial, hrec _ _ _ _ h (zbq (v := .one (.v undef)) hS (Env.eqTo.refl _ _) (Nat.le_refl _) rfl rfl trivial hS.mem o.dst)⟩
    ·exact h.elim
end
section
variable {P : Program} {T : Tab} {cx : Cx} {ops : Array Oper} {tb C : List Nat} {ds : List (Nat × Dl)} {K : Exit -> St -> Prop}
theorem zr5 {r : Option Nat} {nn : Nat} (hND : ziz ops = true) (hT : T.Ok P) (Tb : zfg ops) (hbit : ∀ k j, bef ops k j = zay tb k j) (hcov : zl8 ops.size C (zg8 ds) = true) (hkeys : zc4 (zg8 ds) = true) (hCb : ∀ i ∈ C, i < ops.size) (hdis : ∀ k d, (k, d) ∈ ds -> k ∉ C) : ∀ (fuel : Nat) (listed : Array Bool) (n : Nat) (L : List Nat) (e : Env) (st : St) (a : Act) (w : World),
  listed.size = ops.size -> listed.toList.count false <= fuel -> (∀ k, k < ops.size -> listed.getD k false = true -> ∀ j, j < ops.size -> bef ops k j = true -> listed.getD j false = true) ->
  (∀ i, i ∈ C -> (hasN i L = true ↔ listed.getD i false = true)) -> (∀ i, i ∈ L -> listed.getD i false = true /\ i < ops.size) ->
  cx.n0 = st.b -> a.tmps.size = cx.n -> a.defers = cx.d -> Mem cx e st.m st.k st.f w ->
  (∀ i v, get i st.s = some v -> v.lt st.k /\ a.tmps[i]? = some (v.real e) /\ ∀ j d, (j, d) ∈ ds -> d.dst ≠ some i) ->
  (∀ k d, (k, d) ∈ ds -> listed.getD k false = true -> d.v.lt st.k /\ ∀ t, d.dst = some t -> t < cx.n -> a.tmps[t]? = some (d.v.real e)) ->
  cgo P T cx.n ops tb C ds (K .normal) (fun ch st => K (.panic ch) st) n L st -> wpAnyIn (fw r) nn P .any ops (Post cx K) fuel listed a w := by
 intro fuel
 have main : ∀ (listed : Array Bool) (n : Nat) (L : List Nat) (e : Env) (st : St) (a : Act) (w : World), (∀ k, k < ops.size -> listed.getD k false = true) ->
   (∀ i, i ∈ C -> (hasN i L = true ↔ listed.getD i false = true)) -> cx.n0 = st.b -> a.tmps.size = cx.n -> a.defers = cx.d -> Mem cx e st.m st.k st.f w ->
   (∀ i v, get i st.s = some v -> v.lt st.k /\ a.tmps[i]? = some (v.real e) /\ ∀ j d, (j, d) ∈ ds -> d.dst ≠ some i) ->
   (∀ k d, (k, d) ∈ ds -> listed.getD k false = true -> d.v.lt st.k /\ ∀ t, d.dst = some t -> t < cx.n -> a.tmps[t]? = some (d.v.real e)) ->
   cgo P T cx.n ops tb C ds (K .normal) (fun ch st => K (.panic ch) st) n L st -> Post cx K .normal a w := by
  intro listed n L e st a w hall hLC hb has had hm hsl hds hvc
  unfold cgo at hvc
  obtain ⟨hstab, hvc⟩ := hvc
  have hCall : C.all (fun i => hasN i L) = true := List.all_eq_true.2 fun i hi => (hLC i hi).2 (hall i (hCb i hi))
  rw [hCall] at hvc
  refine ⟨e, _, hvc, hb, has, had, fun i v hi => ?_, hm⟩
  have hi : get i (selS cx.n ds ++ st.s) = some v := hi
  rw [zal] at hi
  split at hi
  ·rename_i v' hv'
   cases hi
   obtain ⟨j, d, h1, h2, h3, rfl⟩ := zcf hv'
   obtain ⟨o, ho, _⟩ := zer hstab h1
   obtain ⟨h4, h5⟩ := hds j d h1 (hall j (Array.getElem?_eq_some_iff.1 ho).1)
   exact ⟨h4, h5 i h2 h3⟩
  ·obtain ⟨h4, h5, _⟩ := hsl i v hi
   exact ⟨h4, h5⟩
 induction fuel with
 | zero =>
  intro listed n L e st a w hsz hcnt hcl hLC hL hb has had hm hsl hds hvc
  have hall : ∀ k, k < ops.size -> listed.getD k false = true := fun k hk => by
   cases hu : listed.getD k false with
   | true => rfl
   | false =>
    exfalso
    have : false ∈ listed.toList := by
     have h2 : listed[k]'(by omega) = false := by simpa [Array.getD_eq_getD_getElem?, hsz, hk] using hu
     rw [<- h2]
     exact Array.getElem_mem_toList (h := by omega)
    have := List.count_pos_iff.2 this
    omega
  refine ⟨?_, main listed n L e st a w hall hLC hb has had hm hsl hds hvc⟩
  refine List.eq_nil_iff_forall_not_mem.2 (fun i hi => ?_)
  obtain ⟨h1, o, ho, _⟩ := mem_ready.1 hi
  have hlt : i < ops.size := (Array.getElem?_eq_some_iff.1 ho).1
  have h3 : listed.getD i false = false := by simpa [Array.getD_eq_getD_getElem?, hsz, hlt] using h1
  rw [hall i hlt] at h3
  cases h3
 | succ fuel ih =>
  intro listed n L e st a w hsz hcnt hcl hLC hL hb has had hm hsl hds hvc
  refine ⟨fun hr => main listed n L e st a w (zdz Tb hsz hr) hLC hb has had hm hsl hds hvc, fun i hi => ?_⟩
  obtain ⟨h1, o, ho, hall⟩ := mem_ready.1 hi
  have hlt : i < ops.size := (Array.getElem?_eq_some_iff.1 ho).1
  have hun : listed.getD i false = false := by simpa [Array.getD_eq_getD_getElem?, hsz, hlt] using h1
  have hpre : ∀ j, j < ops.size -> bef ops i j = true -> listed.getD j false = true := by
   intro j hj hbj
   obtain ⟨_, ed, he, hbd, h2⟩ := Tb.close ho hj hbj
   have hle := hall ed he hbd
   rcases h2 with rfl | h2
   ·exact hle
   ·exact hcl ed.on (Nat.lt_trans (Tb.back ho ed he hbd) hlt) hle j hj h2
  have hset : ∀ j d, (listed.setIfInBounds i true).getD j d = if j = i then true else listed.getD j d := by
   intro j d
   by_cases h : j = i
   ·subst h
    rw [if_pos rfl]
    simp [Array.getD_eq_getD_getElem?, hsz, hlt]
   ·rw [if_neg h, getD_set_ne d (Ne.symm h)]
  have hcnt2 : (listed.setIfInBounds i true).toList.count false <= fuel := by
   have h2 : listed[i]'(by omega) = false := by simpa [Array.getD_eq_getD_getElem?, hsz, hlt] using h1
   have h3 : (listed.setIfInBounds i true).toList.count false + 1 = listed.toList.count false := by
    rw [Array.toList_setIfInBounds, List.count_set (by simpa using (by omega : i < listed.size))]
    have : listed.toList[i]'(by simpa using (by omega : i < listed.size)) = false := by simpa using h2
    have hp : 0 < listed.toList.count false := List.count_pos_iff.2 (by rw [<- h2]; exact Array.getElem_mem_toList (h := by omega))
    rw [this]
    simp only [beq_self_eq_true, if_true]
    have h5 : (true == false) = false := rfl
    rw [h5]
    simp only [Bool.false_eq_true, if_false]
    omega
   omega
  have hcl2 : ∀ k, k < ops.size -> (listed.setIfInBounds i true).getD k false = true -> ∀ j, j < ops.size -> bef ops k j = true -> (listed.setIfInBounds i true).getD j false = true := by
   intro k hk hlk j hj hbj
   rw [hset] at hlk ⊢
   by_cases hji : j = i
   ·rw [if_pos hji]
   ·rw [if_neg hji]
    by_cases hki : k = i
    ·subst hki; exact hpre j hj hbj
    ·rw [if_neg hki] at hlk
     exact hcl k hk hlk j hj hbj
  have hvc0 := hvc
  unfold cgo at hvc
  obtain ⟨hstab, hvc⟩ := hvc
  have hdsz : ∀ {j d}, (j, d) ∈ ds -> j < ops.size /\ d.dst = zbk ops j := fun hj => by
   obtain ⟨oj, hoj, _, hd, _⟩ := zer hstab hj
   exact ⟨(Array.getElem?_eq_some_iff.1 hoj).1, by rw [hd]; simp [zbk, hoj]⟩
  have hsat : Sat cx e (rst cx.n ops tb ds i o st) a w := by
   refine ⟨hb, has, had, fun t v ht => ?_, hm⟩
   obtain ⟨_, ht⟩ := zdn ht
   rw [zal] at ht
   split at ht
   ·rename_i v' hv'
    cases ht
    obtain ⟨j, d, h1, h2, h3, rfl⟩ := zcf hv'
    obtain ⟨h4, h5⟩ := zei.1 h1
    obtain ⟨h6, h7⟩ := hds j d h4 (hpre j (hdsz h4).1 (by rw [hbit]; exact h5))
    exact ⟨h6, h7 t h2 h3⟩
   ·obtain ⟨h4, h5, _⟩ := hsl t v ht
    exact ⟨h4, h5⟩
  have hdst : zbk ops i = o.dst := by simp [zbk, ho]
  have hnd := zqz hND ho
  unfold wpOpIn
  rw [ho]
  simp only
  by_cases hik : ∃ d, (i, d) ∈ ds
  ·obtain ⟨d, hd⟩ := hik
   obtain ⟨o', ho', hg, hdd, hsg⟩ := zer hstab hd
   rw [ho] at ho'
   cases ho'
   have hno : L.any (fun c => zay tb c i) = false := by
    rw [<- Bool.not_eq_true]
    intro hx
    obtain ⟨c, hc, hbc⟩ := List.any_eq_true.1 hx
    obtain ⟨h2, h3⟩ := hL c hc
    have := hcl c h3 h2 i hlt (by rw [hbit]; exact hbc)
    rw [hun] at this
    cases this
   have hsg := hsg hno
   have hok := zfc (o := o) hT hsat
   rw [if_pos (zaz hg _)]
   have hdv : d.v.lt (rst cx.n ops tb ds i o st).k /\ (execOp a.eval o).run P w = .ok (.value (d.v.real e)) w := by
    unfold zpn at hsg
    split at hsg
    ·rename_i u hu
     rw [hu] at hok
     rw [<- hsg]
     exact hok
    ·exact hsg.elim
   obtain ⟨h2, h3⟩ := hdv
   refine ⟨fun _ _ => trivial, ?_⟩
   rw [Oper.semAt_eq _ _ _ (zd8 hnd)]
   ·rw [h3]
    refine ih (listed.setIfInBounds i true) n L e st (a.put o.dst (d.v.real e)) w (by simpa using hsz) hcnt2 hcl2 (fun c hc => ?_) (fun c hc => ?_) hb (by rw [zc1]; exact has) (by rw [zbu]; exact had) hm (fun t v ht => ?_) (fun k d' hk hlk => ?_) hvc0
    ·rw [hset]
     by_cases hci : c = i
     ·subst hci
      exact absurd hc (hdis _ _ hd)
     ·rw [if_neg hci]
      exact hLC c hc
    ·obtain ⟨h4, h5⟩ := hL c hc
     refine ⟨?_, h5⟩
     rw [hset]
     split
     ·rfl
     ·exact h4
    ·obtain ⟨h4, h5, h6⟩ := hsl t v ht
     refine ⟨h4, ?_, h6⟩
     rw [za0, if_neg (fun e1 => h6 i d hd (hdd.trans e1))]
     exact h5
    ·rw [hset] at hlk
     by_cases hki : k = i
     ·subst hki
      rw [zg6 hkeys hk hd]
      refine ⟨h2, fun t ht hlt2 => ?_⟩
      rw [za0, if_pos (hdd.symm.trans ht), if_pos (by rw [has]; exact hlt2)]
     ·rw [if_neg hki] at hlk
      obtain ⟨h4, h5⟩ := hds k d' hk hlk
      refine ⟨h4, fun t ht hlt2 => ?_⟩
      rw [za0, if_neg (fun e1 => hki (Tb.uniq hlt (hdsz hk).1 (by rw [<- (hdsz hk).2]; exact ht) (by rw [hdst]; exact e1)))]
      exact h5 t ht hlt2
  ·have hiC : i ∈ C := by
    have h2 := List.all_eq_true.1 hcov i (List.mem_range.2 hlt)
    rw [Bool.or_eq_true] at h2
    rcases h2 with h2 | h2
    ·exact zbj.1 h2
    ·obtain ⟨p, hp, rfl⟩ := List.mem_map.1 (zbj.1 h2)
     exact absurd ⟨p.2, hp⟩ hik
   have hiL : hasN i L = false := by
    rw [<- Bool.not_eq_true]
    intro hx
    have := (hLC i hiC).1 hx
    rw [hun] at this
    cases this
   have hnall : C.all (fun i => hasN i L) = false := by
    rw [<- Bool.not_eq_true]
    intro hx
    have := List.all_eq_true.1 hx i hiC
    rw [hiL] at this
    cases this
   rw [hnall] at hvc
   simp only at hvc
   cases n with
   | zero => exact hvc.elim
   | succ n =>
    have hrdy : i ∈ zjn C L tb := by
     refine List.mem_filter.2 ⟨hiC, ?_⟩
     rw [hiL, Bool.not_false, Bool.true_and]
     refine List.all_eq_true.2 fun j hj => ?_
     rw [Bool.or_eq_true, Bool.not_eq_true']
     cases hbj : zay tb i j with
     | false => exact .inl rfl
     | true => exact .inr ((hLC j hj).2 (hpre j (hCb j hj) (by rw [hbit]; exact hbj)))
    have hstep := zgt hvc hrdy
    rw [ho] at hstep
    simp only at hstep
    split at hstep
    ·exact hstep.elim
    ·rename_i hg
     rw [if_pos (zaz hg _)]
     refine zwk hT hsat (fun ch e' st' w' hX hS' => ⟨e', st', hX, hS'⟩) (fun e' st' v w' hK he hk hv hbs hm' => ?_) hnd hstep
     have hk : st.k <= st'.k := hk
     have he : e.eqTo st.k e' := he
     obtain ⟨p1, p2, p3, p4⟩ := zk7 cx.n ({ st' with s := st.s } : St) o.dst v
     refine ih (listed.setIfInBounds i true) n (i :: L) e' _ (a.put o.dst (v.real e')) w' (by simpa using hsz) hcnt2 hcl2 (fun c hc => ?_) (fun c hc => ?_) (by rw [p4]; exact hb.trans hbs.symm) (by rw [zc1]; exact has) (by rw [zbu]; exact had) (by rw [p1, p2, p3]; exact hm') (fun t u ht => ?_) (fun k d' hkd hlk => ?_) hK
     ·rw [hset, zbj, List.mem_cons]
      by_cases hci : c = i
      ·rw [if_pos hci]
       simp [hci]
      ·rw [if_neg hci, <- hLC c hc, zbj]
       simp [hci]
     ·rw [hset]
      rcases List.mem_cons.1 hc with rfl | hc
      ·rw [if_pos rfl]
       exact ⟨rfl, hlt⟩
      ·obtain ⟨h4, h5⟩ := hL c hc
       refine ⟨?_, h5⟩
       split
       ·rfl
       ·exact h4
     ·rw [p2]
      rcases zkz ht with ⟨h2, h3, rfl⟩ | ⟨h2, h3⟩
      ·refine ⟨hv, ?_, fun j d hj e1 => hik ⟨d, ?_⟩⟩
       ·rw [za0, if_pos h2, if_pos (by rw [has]; exact h3)]
       ·have := Tb.uniq hlt (hdsz hj).1 (by rw [<- (hdsz hj).2]; exact e1) (by rw [hdst]; exact h2)
        rw [this] at hj
        exact hj
      ·obtain ⟨h4, h5, h6⟩ := hsl t u h2
       refine ⟨SV.lt_mono hk h4, ?_, h6⟩
       rw [SV.real_eq he h4]
       rw [za0]
       split
       ·rename_i e1
        have h7 := h3 e1
        rw [Array.getElem?_eq_none (by rw [has]; omega)] at h5
        cases h5
       ·exact h5
     ·rw [p2]
      rw [hset] at hlk
      have hki : k ≠ i := fun e1 => hik ⟨d', e1 ▸ hkd⟩
      rw [if_neg hki] at hlk
      obtain ⟨h4, h5⟩ := hds k d' hkd hlk
      refine ⟨SV.lt_mono hk h4, fun t ht hlt2 => ?_⟩
      rw [SV.real_eq he h4, za0, if_neg (fun e1 => hki (Tb.uniq hlt (hdsz hkd).1 (by rw [<- (hdsz hkd).2]; exact ht) (by rw [hdst]; exact e1)))]
      exact h5 t ht hlt2
theorem zsm {r : Option Nat} {nn : Nat} (hND : ziz ops = true) {e : Env} {st : St} {a : Act} {w : World} (hT : T.Ok P) (hS : Sat cx e st a w) {id : Nat} (h : zl5 P T cx.n ops (K .normal) (fun ch st => K (.panic ch) st) st) : (Code.region id ops true).wpIn (fw r) nn P (Post cx K) a w := by
 obtain ⟨tb, C, ds, htb, hlen, htab, htr, hcov, hkeys, hCb, hdis, hgo⟩ := h.ex
 have Tb := zfw htab
 have hbit : ∀ k j, bef ops k j = zay tb k j := by
  intro k j
  unfold bef zay
  rw [<- htb]
  congr 1
  simp [Array.getD_eq_getD_getElem?, List.getD]
 refine wpIn_region_any hT.mixed (zr5 hND hT Tb hbit hcov hkeys (zfs hCb) (fun k d hk hc => ?_) _ _ C.length [] e { st with s := zl2 ds st.s } a _ (by simp) (by simp) ?_ ?_ ?_ hS.base hS.size hS.defers (hS.mem.later ⟨rfl, rfl, rfl, Nat.le_refl _, fun _ _ => rfl⟩) ?_ ?_ hgo)
 ·have := List.all_eq_true.1 hdis k (List.mem_map.2 ⟨_, hk, rfl⟩)
  rw [zf5 hc] at this
  cases this
 ·intro k hk hlk
  rw [zbc] at hlk
  cases hlk
 ·intro i hi
  rw [zbc]
  simp [hasN]
 ·intro i hi
  cases hi
 ·intro i v hi
  obtain ⟨h1, h2⟩ := zff hi
  exact ⟨(hS.slots i v h1).1, (hS.slots i v h1).2, h2⟩
 ·intro k d hk hlk
  rw [zbc] at hlk
  cases hlk
end
structure zaj (P : Program) (N : Nat) (c : Code) (K : Exit -> St -> Prop) (st : St) : Prop where
 run : ∀ (r : Option Nat) (n : Nat) (cx : Cx) (e : Env) (a : Act) (w : World), cx.n = N -> Sat cx e st a w -> c.wpIn (fw r) n P (Post cx K) a w
section
variable {P : Program} {T : Tab} {N : Nat} {K : Exit -> St -> Prop} {st : St}
theorem zaj.fixed (hT : T.Ok P) {id : Nat} {ops : Array Oper} (hd : ziz ops = true) (h : sops P T N ops (K .normal) (fun ch st => K (.panic ch) st) ops.toList st) : zaj P N (.region id ops false) K st := by
 refine ⟨fun r n cx e a w hn hS => ?_⟩
 subst hn
 refine wpIn_region_list (zpi hT ops.toList e st a w (fun o ho => ?_) hS h)
 have := List.all_eq_true.1 hd o ho
 simpa using this
theorem zaj.draw (hT : T.Ok P) {id : Nat} {ops : Array Oper} (hd : ziz ops = true) (h : zl5 P T N ops (K .normal) (fun ch st => K (.panic ch) st) st) : zaj P N (.region id ops true) K st := by
 refine ⟨fun r n cx e a w hn hS => ?_⟩
 subst hn
 exact zsm hd hT hS h
theorem zaj.mono {c : Code} {K' : Exit -> St -> Prop} (h : zaj P N c K st) (hK : ∀ ex st', K ex st' -> K' ex st') : zaj P N c K' st :=
 ⟨fun r n cx e a w hn hS => wpIn_mono (h.run r n cx e a w hn hS) fun _ _ _ ⟨e', st', h1, h2⟩ => ⟨e', st', hK _ _ h1, h2⟩⟩
theorem zaj.ent {c : Code} {st' : St} (he : Ent st st') (h : zaj P N c K st') : zaj P N c K st :=
 ⟨fun r n cx e a w hn hS => let ⟨e', hS'⟩ := he.run cx e a w hS; h.run r n cx e' a w hn hS'⟩
theorem zaj.skip (h : K .normal st) : zaj P N .skip K st := ⟨fun r n cx e a w hn hS => wpIn_skip ⟨e, st, h, hS⟩⟩
theorem zaj.exit {id : Nat} (h : K (.exit id) st) : zaj P N (.exit id) K st := ⟨fun r n cx e a w hn hS => wpIn_exit ⟨e, st, h, hS⟩⟩
theorem zaj.ret (h : K .ret st) : zaj P N .ret K st := ⟨fun r n cx e a w hn hS => wpIn_ret ⟨e, st, h, hS⟩⟩
theorem zaj.seq {x y : Code} (h : zaj P N x (fun ex st' => match ex with | .normal => zaj P N y K st' | ex => K ex st') st) : zaj P N (.seq x y) K st := by
 refine ⟨fun r n cx e a w hn hS => wpIn_seq (wpIn_mono (h.run r n cx e a w hn hS) fun ex a' w' hq => ?_)⟩
 obtain ⟨e', st', hK, hS'⟩ := hq
 cases ex with
 | normal => exact hK.run r n cx e' a' w' hn hS'
 | _ => exact ⟨e', st', hK, hS'⟩
theorem zaj.cond_tmp {t : Nat} {x y : Code} {b : Bool} (hg : get t st.s = some (.one (.v (.bool b)))) (h1 : b = true -> zaj P N x K { st with s := (t, .one (.v (.bool true))) :: st.s }) (h2 : b = false -> zaj P N y K { st with s := (t, .one (.v (.bool false))) :: st.s }) : zaj P N (.cond (.tmp t) x y) K st := by
 refine ⟨fun r n cx e a w hn hS => ?_⟩
 have hev : a.eval (.tmp t) = .bool b := (hS.ev (x := .tmp t) hg).2
 refine wpIn_cond_split hev (fun hb => ?_) (fun hb => ?_)
 ·subst hb
  exact (h1 rfl).run r n cx e a w hn (zdi hS hg rfl trivial)
 ·subst hb
  exact (h2 rfl).run r n cx e a w hn (zdi hS hg rfl trivial)
theorem zaj.block {id : Nat} {c : Code} (h : zaj P N c (fun ex st' => match ex with | .exit j => (match Nat.beq j id with | true => K .normal st' | false => K (.exit j) st') | ex => K ex st') st) : zaj P N (.block id c) K st := by
 refine ⟨fun r n cx e a w hn hS => wpIn_block (wpIn_mono (h.run r n cx e a w hn hS) fun ex a' w' hq => ?_)⟩
 obtain ⟨e', st', hK, hS'⟩ := hq
 cases ex with
 | exit j =>
  simp only [Exit.inBlock]
  simp only at hK
  split at hK
  ·rename_i hb
   rw [if_pos (by rw [<- Nat.beq_eq]; exact hb)]
   exact ⟨e', st', hK, hS'⟩
  ·rename_i hb
   rw [if_neg (fun e1 => by rw [e1, Nat.beq_refl] at hb; cases hb)]
   exact ⟨e', st', hK, hS'⟩
 | _ => exact ⟨e', st', hK, hS'⟩
end
open Classical in
theorem zkt {F : Fence} {m : Nat} {P : Program} {c : Code} {Q : Exit -> Act -> World -> Prop} (I : Nat -> Act -> World -> Prop) {a : Act} {w : World} (h0 : ∃ n, I n a w)
  (round : ∀ n a w, I n a w -> c.wpIn F m P (Exit.then (fun a' w' => ∃ n', n' < n /\ I n' a' w') Q) a w) : (Code.loop c).wpIn F m P Q a w := by
 have hl : ∀ a w, (∃ n, I n a w) -> ∃ n, I n a w /\ ∀ m, I m a w -> n <= m := fun a w h => zz8 h
 refine wpIn_loop (fun a w => ∃ n, I n a w) (fun a w => if h : ∃ n, I n a w then Classical.choose (hl a w h) else 0) h0 fun a w h => ?_
 obtain ⟨h1, h2⟩ := Classical.choose_spec (hl a w h)
 refine wpIn_mono (round _ a w h1) fun ex a' w' hq => ?_
 cases ex with
 | normal =>
  obtain ⟨n', hlt, hI⟩ := hq
  refine ⟨⟨n', hI⟩, ?_⟩
  rw [dif_pos ⟨n', hI⟩, dif_pos h]
  exact Nat.lt_of_le_of_lt ((Classical.choose_spec (hl a' w' ⟨n', hI⟩)).2 n' hI) hlt
 | _ => exact hq
def cxP (w : World) (N : Nat) : Cx := ⟨w, fun _ => False, fun _ => False, fun _ h => h.elim, fun _ h => h.elim, ⟨fun _ => 0, fun _ => (none, 0, 0)⟩, 0, N, []⟩
def envP : Env := ⟨fun _ => 0, fun _ => (none, 0, 0)⟩
theorem zeb {E : World -> Prop} (hU : Up E) {w : World} (hE : E w) {a : Act} {N : Nat} {s : List (Nat × SV)} (hsz : a.tmps.size = N) (hd : a.defers = []) (hs : ∀ i v, get i s = some v -> v.lt 0 /\ a.tmps[i]? = some (v.real envP)) : Sat (cxP w N) envP { s := s, m := [], k := 0, f := [E] } a w := by
 have hat : ∀ {i g}, ¬ At envP [] i g := fun ⟨b, hb, _⟩ => by cases hb
 refine ⟨rfl, hsz, hd, hs, Fr.refl _ _, fun i hi => (by cases hi), Nat.le_refl _, fun i t cs hi => (by cases hi), fun i E z n xs hi => (by cases hi), fun i b hi => (by cases hi), fun i g hg => absurd hg hat, fun i j g hg => absurd hg hat, fun F hF => ?_, fun F hF => ?_⟩
 ·rw [List.mem_singleton.1 hF]; exact hU
 ·rw [List.mem_singleton.1 hF]
  refine hU _ _ ?_ hE
  intro g o hg ho
  rw [zcx, hg]
  have hn : ¬ ((cxP w N).H g \/ Own envP [] g) := by
   rintro (h | ⟨i, h⟩)
   ·exact h
   ·exact hat h
  simp only [Option.map_some, hn, if_false]
end Go.Proofs.Sym
end
section
set_option linter.unusedVariables false
set_option linter.unusedSimpArgs false
namespace Go.Proofs.YtmkpiekbpakigaaDoor
open Go.RowKit Go.Shelf
attribute [local go_sem] Oper.semAt_some
def zqw {α : Type} (P : Program) (n : Nat) (gf : Nat) (lb : Array Value) (encs : α -> Array Value) (xs : List α) (E : World -> Prop) : Prop :=
 ∀ (l : Nat) (J : List α -> World -> Prop) (W : World), (∀ pre W, J pre W -> E W) -> (∀ pre W W', J pre W -> W.grownBy W' none -> J pre W') ->
  (∀ pre x r W1, xs = pre ++ x :: r -> J pre W1 -> YieldAt Fence.wide (n - 1) P l (encs x) W1 fun e W' => e = .returned (.bool true) /\ J (pre ++ [x]) W') ->
  J [] W -> CallsIn Fence.wide n P gf (#[.func (.yield l) #[] #[]] ++ lb) W fun e W' => (∃ v, e = .returned v) /\ J xs W'
theorem zla {P : Program} {n : Nat} {α : Type} {g : Operand} {ps : Array Tmp} {assign body : Code} {Q : Exit -> Act -> World -> Prop} {a : Act} {w : World} {gf : Nat} {lb : Array Value} (hg : a.eval g = .func (.func gf) #[] lb) (eg : ∀ args w, (callFunc gf args).run P w = .ok (.enter gf args) w)
  {encs : α -> Array Value} {xs : List α} {E : World -> Prop} (h1 : 1 <= n) (hit : zqw P (n - 1) gf lb encs xs E) (hps : ∀ x, (encs x).size = ps.size)
  (I : List α -> World -> Prop) (hI : OwnFrom w.heap.size I) (hIE : ∀ pre W, I pre W -> E W) (h0 : I [] w) (Ax : α -> Act -> World -> Prop) (hAx : ∀ x a', OwnFrom w.heap.size (fun (_ : Unit) W => Ax x a' W))
  (hassign : ∀ (l : Nat) (pre : List α) (x : α) (r : List α) (W : World) (K : Act -> World -> Prop), xs = pre ++ x :: r -> I pre W -> w.heap.size <= W.heap.size -> (∀ a' W', KeepsFrom w.heap.size W W' -> I pre W' -> Ax x a' W' -> K a' W') ->
   assign.wpIn (Fence.wide.inRound l) (n - 1 - 1) P (Exit.then K (fun _ _ _ => False)) { tmps := (ps.zip (encs x)).foldl (fun t (p, v) => t.setIfInBounds p v) a.tmps, defers := [] } W)
  (hbody : ∀ (l : Nat) (pre : List α) (x : α) (r : List α) (a' : Act) (W : World), xs = pre ++ x :: r -> w.heap.size <= W.heap.size -> I pre W -> Ax x a' W -> body.wpIn (Fence.wide.inRound l) (n - 1 - 1) P (fun ex a3 W' => ex = .normal /\ KeepsFrom w.heap.size W W' /\ I (pre ++ [x]) W') a' W)
  (hdone : ∀ (D : Nat) (W : World), w.heap.size <= D -> I xs W -> W.heap[D]? = some (.deferred (some [])) -> Q .normal { a with defers := { target := .collected D, args := #[] } :: a.defers } W) :
  (Code.rangeFunc g ps assign body).wpIn Fence.wide n P Q a w := by
 refine wpIn_rangeFunc ?_
 intro fn hfn
 obtain ⟨rec, hrec⟩ : ∃ rec : LoopState -> Option Code -> Loop, rec = fun st pe => { state := st, pending := pe, fn, tmps := a.tmps, params := ps, assign, body, defers := w.heap.size } := ⟨_, rfl⟩
 obtain ⟨W1, hW1⟩ : ∃ W1, (w.alloc (.deferred (some []))).alloc (.loop (rec .ready none)) = W1 := ⟨_, rfl⟩
 have hL1 : W1.heap[w.heap.size + 1]? = some (.loop (rec .ready none)) := by
  rw [<- hW1]; have := World.alloc_heap_new (w.alloc (.deferred (some []))) (.loop (rec .ready none)); rwa [World.size_alloc] at this
 have hK1 : W1.heap[w.heap.size]? = some (.deferred (some [])) := by
  rw [<- hW1]; exact (Below.heap_alloc _ _ _ (by simp)).trans (World.alloc_heap_new w _)
 have hI1 : I [] W1 := by rw [<- hW1]; exact hI.alloc _ (hI.alloc _ h0)
 have hs1 : w.heap.size <= W1.heap.size := by rw [<- hW1]; simp; omega
 refine ⟨w.heap.size + 1, [{ target := .collected w.heap.size, args := #[] }], W1, { target := .fn (.func gf) lb, args := #[.func (.yield (w.heap.size + 1)) #[] #[]] }, W1, gf,
  #[.func (.yield (w.heap.size + 1)) #[] #[]] ++ lb, W1, ?_, ?_, ?_, ?_, fun _ => h1, ?_⟩
 ·rw [<- hW1, hrec]; exact run_enterLoop_outer _ _ _ _ _
 ·simp only [resolve, hg]
  simp [go_sem]
 ·intro f' hf'; trivial
 ·simp [invoke, go_sem, eg]
 ·refine (hit (w.heap.size + 1)
   (fun pre W => I pre W /\ W.heap[w.heap.size + 1]? = some (.loop (rec .ready none)) /\ W.heap[w.heap.size]? = some (.deferred (some [])))
   W1 (fun pre W h => hIE pre W h.1) (fun pre W W' h hg => ⟨hI _ _ _ none h.1 hg (fun r e => by cases e), (hg.block _ (Array.getElem?_eq_some_iff.1 h.2.1).1 (fun e => by cases e)).trans h.2.1, (hg.block _ (Array.getElem?_eq_some_iff.1 h.2.2).1 (fun e => by cases e)).trans h.2.2⟩) ?_ ⟨hI1, hL1, hK1⟩).mono ?_
  ·rintro pre x r W hxs ⟨hi, hl, hk⟩
   have hlt : w.heap.size + 1 < W.heap.size := (Array.getElem?_eq_some_iff.1 hl).1
   have hy := run_yield (P := P) (args := encs x) hl (by rw [hrec]; exact hps x)
   rw [hrec] at hy
   refine ⟨fn, _, assign, body, hy, roundIn_of_wpIn hfn (hassign _ pre x r W _ hxs hi (by omega) ?_)⟩
   clear hy
   intro a' Wa hkfa hia hax
   replace hl := hkfa.same _ _ (by omega) hl rfl
   replace hk := hkfa.same _ _ (Nat.le_refl _) hk rfl
   replace hlt : w.heap.size + 1 < Wa.heap.size := (Array.getElem?_eq_some_iff.1 hl).1
   replace hi := hia
   clear hia
   revert hkfa
   generalize W = Wb
   intro hkfa
   obtain ⟨W, rfl⟩ : ∃ W, W = Wa := ⟨_, rfl⟩
   refine ⟨_, run_beginRound hl (by rw [hrec]), ?_⟩
   have hl2 : (W.putObj (w.heap.size + 1) (.loop { rec .ready none with state := .busy })).heap[w.heap.size + 1]? = some (.loop { rec .ready none with state := .busy }) := World.putObj_heap_same hlt
   have hk2 : (W.putObj (w.heap.size + 1) (.loop { rec .ready none with state := .busy })).heap[w.heap.size]? = some (.deferred (some [])) := (World.putObj_heap_other (by omega)).trans hk
   have hsz2 : w.heap.size <= (W.putObj (w.heap.size + 1) (.loop { rec .ready none with state := .busy })).heap.size := by
    have := (Array.getElem?_eq_some_iff.1 hl2).1
    omega
   refine wpIn_mono (hbody _ pre x r a' _ hxs hsz2 (hI.putObj _ hi (by omega) hl rfl) ((hAx x a').putObj (s := ()) _ hax (by omega) hl rfl)) ?_
   rintro e a3 W3 ⟨rfl, hk3, hi3⟩
   have hl3 := hk3.same _ _ (by omega) hl2 rfl
   have hr := run_endRound (P := P) none hl3
   rw [hrec] at hr hl3
   have hlt3 := (Array.getElem?_eq_some_iff.1 hl3).1
   have hl4 : (W3.putObj (w.heap.size + 1) (.loop (rec .ready none))).heap[w.heap.size + 1]? = some (.loop (rec .ready none)) := World.putObj_heap_same hlt3
   rw [hrec] at hl4
   refine ⟨_, _, hr, rfl, hI.putObj _ hi3 (by omega) hl3 rfl, ?_, (World.putObj_heap_other (by omega)).trans (hk3.same _ _ (Nat.le_refl _) hk2 rfl)⟩
   rw [hrec]
   exact hl4
  ·rintro e W2 ⟨⟨v, rfl⟩, hi, hl, hk⟩
   exact ⟨none, _, by have := run_endLoop (P := P) hl (by rw [hrec]; simp); rw [hrec] at this; exact this, hdone _ _ (Nat.le_refl _) (hI.putObj _ hi (by omega) hl rfl) ((World.putObj_heap_other (by omega)).trans hk)⟩
end Go.Proofs.YtmkpiekbpakigaaDoor
end
section
set_option linter.unusedVariables false
set_option linter.unusedSimpArgs false
namespace Go.Proofs.YtmkpiekbpakigaaDoor
open Go.RowKit Go.Proofs.Base Go.Proofs.Sym
def zan (M : List (Nat × Obj)) (w : World) : Prop := ∀ p ∈ M, p.2 ≠ dum /\ w.heap[p.1]? = some p.2
theorem zan.up (M : List (Nat × Obj)) : Up (zan M) := fun w w' h hM p hp => ⟨(hM p hp).1, h _ _ (hM p hp).2 (hM p hp).1⟩
theorem zan.app {M N : List (Nat × Obj)} {w : World} : zan (M ++ N) w ↔ zan M w /\ zan N w :=
 ⟨fun h => ⟨fun p hp => h p (List.mem_append_left _ hp), fun p hp => h p (List.mem_append_right _ hp)⟩, fun h p hp => (List.mem_append.1 hp).elim (h.1 p) (h.2 p)⟩
theorem zan.nil (w : World) : zan [] w := fun p hp => by cases hp
def RowO (E z : Nat) (A : Option Addr) (n c : Nat) (vs : List Value) (M : List (Nat × Obj)) : Prop :=
 (A = none /\ n = 0 /\ c = 0 /\ vs = [] /\ M = []) \/ ∃ g cur, A = some ⟨g, 0, none⟩ /\ M = [(g, .cells cur E (0, 0))] /\ n <= c /\ c <= maxLen /\ cur.size = c * z /\ cur.toList.take (n * z) = vs
section
variable {E z : Nat} {A : Option Addr} {n c : Nat} {vs : List Value} {M : List (Nat × Obj)}
theorem RowO.spot (h : RowO E z A n c vs M) : ∀ a, A = some a -> a.spot = none := by
 rcases h with ⟨rfl, _⟩ | ⟨g, cur, rfl, _⟩
 ·intro a h; cases h
 ·intro a h; cases h; rfl
theorem RowO.nil (h : RowO E z A n c vs M) : A = none -> n = 0 /\ c = 0 := by
 rcases h with ⟨rfl, h1, h2, _⟩ | ⟨g, cur, rfl, _⟩
 ·exact fun _ => ⟨h1, h2⟩
 ·intro h; cases h
theorem RowO.le (h : RowO E z A n c vs M) : n <= c := by
 rcases h with ⟨rfl, h1, h2, _⟩ | ⟨g, cur, rfl, _, h1, _⟩
 ·omega
 ·exact h1
theorem RowO.max (h : RowO E z A n c vs M) : c <= maxLen := by
 rcases h with ⟨rfl, h1, h2, _⟩ | ⟨g, cur, rfl, _, _, h1, _⟩
 ·rw [h2]; exact Nat.zero_le _
 ·exact h1
theorem RowO.slat (h : RowO E z A n c vs M) {w : World} (hM : zan M w) : SlAt w A vs := by
 rcases h with ⟨rfl, h1, h2, rfl, _⟩ | ⟨g, cur, rfl, rfl, _, _, hs, rfl⟩
 ·exact SlAt.nil _ _
 ·intro j u hj
  obtain ⟨_, hb⟩ := hM _ List.mem_cons_self
  refine ⟨_, rfl, ?_⟩
  rw [zbl, cell_of_row _ g (0 + j) cur E (0, 0) hb]
  rw [List.getElem?_take] at hj
  split at hj
  ·simpa using hj
  ·cases hj
end
theorem ziv {cx : Cx} {e : Env} {st : St} {a : Act} {w : World} (hS : Sat cx e st a w) {i E z n c : Nat} {A : Option Addr} {xs : List Value} (hi : get i st.m = some (.own E z n xs)) (hv : e.rv i = .slice A n c) {F : World -> Prop} (hU : Up F)
  (h4 : F (hide (fun g => cx.H g \/ ∃ j, j ≠ i /\ At e st.m j g) w)) : Sat cx e (Sym.freeze i (.slice A n c) F st) a w := by
 have hm := hS.mem
 have hat : ∀ {v : Value} {j g}, At e ((i, LB.dead) :: frzM i v st.m) j g -> j ≠ i /\ At e st.m j g := by
  rintro v j g ⟨b, hb, hg⟩
  rcases zah hb with ⟨rfl, rfl⟩ | ⟨hne, hb⟩
  ·cases hg
  ·obtain ⟨b0, h1, h2⟩ := zbx hb
   refine ⟨hne, b0, h1, ?_⟩
   rcases h2 with ⟨u, cs, rfl, rfl⟩ | ⟨rfl, _⟩
   ·exact hg
   ·exact hg
 refine ⟨hS.base, hS.size, hS.defers, fun t u hu => ?_, hm.fr, hm.ids, hm.low, fun j t cs hj => ?_, fun j E' z' n' xs' hj => ?_, fun j b hj => ?_, fun j g hg => hm.free j g (hat hg).2, fun j l g hj hl => hm.apart j l g (hat hj).2 (hat hl).2, fun F hF => ?_, fun F hF => ?_⟩
 ·obtain ⟨u0, h5, rfl⟩ := zic hu
  obtain ⟨h6, h7⟩ := hS.slots _ _ h5
  exact ⟨zo1 rfl h6, by rw [h7, zol hv]⟩
 ·rcases zah hj with ⟨rfl, e1⟩ | ⟨hne, hj⟩
  ·cases e1
  ·obtain ⟨b0, h5, h6⟩ := zbx hj
   rcases h6 with ⟨u, cs0, rfl, h7⟩ | ⟨h7, h8⟩
   ·cases h7
    rw [zha hv]
    exact hm.cells _ _ _ h5
   ·exact absurd h7.symm (h8 _ _)
 ·rcases zah hj with ⟨rfl, e1⟩ | ⟨hne, hj⟩
  ·cases e1
  ·obtain ⟨b0, h5, h6⟩ := zbx hj
   rcases h6 with ⟨u, cs0, rfl, h7⟩ | ⟨h7, h8⟩
   ·cases h7
   ·rw [<- h7] at h5
    exact hm.own _ _ _ _ _ h5
 ·rcases zah hj with ⟨rfl, e1⟩ | ⟨hne, hj⟩
  ·subst e1
   exact ⟨(hm.sc _ _ hi).1, trivial⟩
  ·obtain ⟨b0, h5, h6⟩ := zbx hj
   obtain ⟨h7, h8⟩ := hm.sc _ _ h5
   refine ⟨h7, ?_⟩
   rcases h6 with ⟨u, cs0, rfl, rfl⟩ | ⟨rfl, _⟩
   ·intro x hx
    obtain ⟨q, hq, rfl⟩ := List.mem_map.1 hx
    exact zhn rfl (h8 q hq)
   ·exact h8
 ·rcases List.mem_cons.1 hF with rfl | hF
  ·exact hU
  ·exact hm.up F hF
 ·have hsub : ∀ g, (cx.H g \/ Sym.Own e ((i, LB.dead) :: frzM i (.slice A n c) st.m) g) -> (cx.H g \/ ∃ j, j ≠ i /\ At e st.m j g) := by
   rintro g (hx | ⟨j, hx⟩)
   ·exact .inl hx
   ·exact .inr ⟨j, hat hx⟩
  rcases List.mem_cons.1 hF with rfl | hF
  ·exact hU _ _ (zax fun g o hg hn => ⟨hg, fun hx => hn (hsub g hx)⟩) h4
  ·refine hm.up F hF _ _ (zax fun g o hg hn => ⟨hg, fun hx => hn ?_⟩) (hm.facts F hF)
   rcases hsub g hx with hx | ⟨j, _, hx⟩
   ·exact .inl hx
   ·exact .inr ⟨j, hx⟩
theorem zo7 {cx : Cx} {e : Env} {st : St} {a : Act} {w : World} (hS : Sat cx e st a w) {i E z n : Nat} {xs : List Value} (hi : get i st.m = some (.own E z n xs)) :
  ∃ A c M, RowO E z A n c xs M /\ (∀ L, (∀ w, AllF st.f w -> zan L w) -> ∀ p ∈ M, ∀ q ∈ L, p.1 ≠ q.1) /\ Sat cx e (Sym.freeze i (.slice A n c) (zan M) st) a w := by
 have hm := hS.mem
 have h1 := hm.own i E z n xs hi
 rcases h1.2 with ⟨hv, h0⟩ | ⟨g, cap, cur, hv, _, hh, hnc, hcm, hcs, ht⟩
 ·have hx : xs = [] := List.eq_nil_of_length_eq_zero (by rw [h1.1, h0, Nat.zero_mul])
  exact ⟨none, 0, [], .inl ⟨rfl, h0, rfl, hx, rfl⟩, fun L _ p hp => (by cases hp), ziv hS hi (by rw [hv, h0]) (zan.up _) (zan.nil _)⟩
 ·have hat : At e st.m i g := ⟨_, hi, by simp only [LB.block, hv, Value.ownBlock]⟩
  refine ⟨some ⟨g, 0, none⟩, cap, [(g, .cells cur E (0, 0))], .inr ⟨g, cur, rfl, rfl, hnc, hcm, hcs, ht⟩, fun L hL p hp q hq he => ?_, ziv hS hi hv (zan.up _) ?_⟩
  ·rw [List.mem_singleton.1 hp] at he
   obtain ⟨h2, h3⟩ := hL _ hm.hidden q hq
   rw [zcx] at h3
   have he : g = q.1 := he
   rw [<- he, hh] at h3
   have hown : cx.H g \/ Sym.Own e st.m g := .inr ⟨i, hat⟩
   simp only [Option.map_some, hown, if_true, Option.some.injEq] at h3
   exact h2 h3.symm
  ·intro p hp
   rw [List.mem_singleton.1 hp]
   exact ⟨fun h => (by cases h), zb5 hh (hm.others hat)⟩
theorem zai.freezeO {P : Program} {N : Nat} {c : Code} {K : Exit -> St -> Prop} {st : St} (i : Nat) {E z n : Nat} {xs : List Value} (hi : get i st.m = some (.own E z n xs))
  (h : ∀ A cp M, RowO E z A n cp xs M -> (∀ L, (∀ w, AllF st.f w -> zan L w) -> ∀ p ∈ M, ∀ q ∈ L, p.1 ≠ q.1) -> zai P N c K (Sym.freeze i (.slice A n cp) (zan M) st)) : zai P N c K st :=
 ⟨fun cx e a w hn hS => let ⟨A, cp, M, h1, h2, hS'⟩ := zo7 hS hi; (h A cp M h1 h2).run cx e a w hn hS'⟩
mutual
def TM : TT -> List (Nat × Obj) -> Prop
 | .mk k n s la lc ls aa ac us, M => I64 k /\ I64 n /\ s.size <= maxLen /\ ∃ Ml Ma Ms, M = Ml ++ (Ma ++ Ms) /\ RowO 24 5 la ls.length lc (lvsC ls) Ml /\ RowO 41 5 aa us.length ac (ttsC us) Ma /\ TMs us Ms
def TMs : List TT -> List (Nat × Obj) -> Prop
 | [], M => M = []
 | u :: r, M => ∃ M1 M2, M = M1 ++ M2 /\ TM u M1 /\ TMs r M2
end
mutual
theorem TM.inW {w : World} : ∀ (x : TT) (M : List (Nat × Obj)), TM x M -> zan M w -> TTIn w x
 | .mk k n s la lc ls aa ac us, M, h, hM => by
  unfold TM at h
  obtain ⟨h1, h2, h3, Ml, Ma, Ms, rfl, hl, ha, hs⟩ := h
  obtain ⟨hMl, hM2⟩ := zan.app.1 hM
  obtain ⟨hMa, hMs⟩ := zan.app.1 hM2
  unfold TTIn
  refine ⟨⟨h1, h2, h3, zh8 ?_ hl.spot (hl.slat hMl), hl.nil, hl.le, hl.max, ha.nil, ha.le, ha.max⟩, zez us 0 (fun i u hi => ?_) (TMs.inW us Ms hs hMs)⟩
  ·have := hl.le
   have := hl.max
   simp only [maxLen] at this
   omega
  ·rw [Nat.zero_mul, Nat.zero_add]
   exact ha.slat hMa i u hi
theorem TMs.inW {w : World} : ∀ (us : List TT) (M : List (Nat × Obj)), TMs us M -> zan M w -> ∀ u ∈ us, TTIn w u
 | [], M, h, hM, u, hu => by cases hu
 | x :: r, M, h, hM, u, hu => by
  unfold TMs at h
  obtain ⟨M1, M2, rfl, h1, h2⟩ := h
  obtain ⟨hM1, hM2⟩ := zan.app.1 hM
  rcases List.mem_cons.1 hu with e | hu
  ·rw [e]; exact TM.inW x M1 h1 hM1
  ·exact TMs.inW r M2 h2 hM2 u hu
end
theorem TMs.snoc : ∀ {us : List TT} {M : List (Nat × Obj)} {x : TT} {N : List (Nat × Obj)}, TMs us M -> TM x N -> TMs (us ++ [x]) (M ++ N)
 | [], M, x, N, h, hx => by
  unfold TMs at h
  subst h
  show TMs [x] N
  unfold TMs
  exact ⟨N, [], by simp, hx, by unfold TMs; rfl⟩
 | u :: r, M, x, N, h, hx => by
  unfold TMs at h
  obtain ⟨M1, M2, rfl, h1, h2⟩ := h
  rw [List.cons_append]
  unfold TMs
  exact ⟨M1, M2 ++ N, by simp, h1, TMs.snoc h2 hx⟩
theorem TMs.split : ∀ {us vs : List TT} {M : List (Nat × Obj)}, TMs (us ++ vs) M -> ∃ M1 M2, M = M1 ++ M2 /\ TMs us M1 /\ TMs vs M2
 | [], vs, M, h => ⟨[], M, rfl, by unfold TMs; rfl, h⟩
 | u :: r, vs, M, h => by
  rw [List.cons_append] at h
  unfold TMs at h
  obtain ⟨M1, M2, rfl, h1, h2⟩ := h
  obtain ⟨N1, N2, rfl, h3, h4⟩ := TMs.split h2
  refine ⟨M1 ++ N1, N2, by simp, ?_, h4⟩
  unfold TMs
  exact ⟨M1, N1, rfl, h1, h3⟩
theorem TMs.join : ∀ {us vs : List TT} {M N : List (Nat × Obj)}, TMs us M -> TMs vs N -> TMs (us ++ vs) (M ++ N)
 | [], vs, M, N, h, hv => by
  unfold TMs at h
  subst h
  exact hv
 | u :: r, vs, M, N, h, hv => by
  unfold TMs at h
  obtain ⟨M1, M2, rfl, h1, h2⟩ := h
  rw [List.cons_append]
  unfold TMs
  exact ⟨M1, M2 ++ N, by simp, h1, TMs.join h2 hv⟩
def zcr (L M : List (Nat × Obj)) : Prop := (M.map Prod.fst).Nodup /\ ∀ p ∈ M, ∀ q ∈ L, p.1 ≠ q.1
theorem zcr.app {L M N : List (Nat × Obj)} (h1 : zcr L M) (h2 : zcr (M ++ L) N) : zcr L (M ++ N) := by
 refine ⟨?_, fun p hp q hq => ?_⟩
 ·rw [List.map_append, List.nodup_append]
  refine ⟨h1.1, h2.1, fun a ha b hb e => ?_⟩
  obtain ⟨p, hp, rfl⟩ := List.mem_map.1 ha
  obtain ⟨q, hq, rfl⟩ := List.mem_map.1 hb
  exact h2.2 q hq p (List.mem_append_left _ hp) e.symm
 ·rcases List.mem_append.1 hp with hp | hp
  ·exact h1.2 p hp q hq
  ·exact h2.2 p hp q (List.mem_append_right _ hq)
theorem zcr.row {E z : Nat} {A : Option Addr} {n c : Nat} {vs : List Value} {M L : List (Nat × Obj)} (h : RowO E z A n c vs M) (hd : ∀ p ∈ M, ∀ q ∈ L, p.1 ≠ q.1) : zcr L M := by
 refine ⟨?_, hd⟩
 rcases h with ⟨_, _, _, _, rfl⟩ | ⟨g, cur, _, rfl, _⟩
 ·simp
 ·simp
theorem zcr.perm {L M N : List (Nat × Obj)} (h : zcr L M) (hp : M.Perm N) : zcr L N :=
 ⟨(List.Perm.nodup_iff (hp.map _)).1 h.1, fun p hp2 q hq => h.2 p (hp.mem_iff.2 hp2) q hq⟩
end Go.Proofs.YtmkpiekbpakigaaDoor
end
section
set_option linter.unusedVariables false
set_option linter.unusedSimpArgs false
namespace Go.Proofs.YtmkpiekbpakigaaDoor
open Go.RowKit Go.Proofs.Base Go.Proofs.Sym
def cP (t : TT) (L : List (Nat × Obj)) (w : World) : Prop := TTIn w t /\ zan L w
theorem cP.up (t : TT) (L : List (Nat × Obj)) : Up (cP t L) := (TTIn.upS _).and (zan.up _)
def cO (t : TT) (L Ml S : List (Nat × Obj)) (w : World) : Prop := (cP t L w /\ zan Ml w) /\ zan S w
theorem cO.up (t : TT) (L Ml S : List (Nat × Obj)) : Up (cO t L Ml S) := ((cP.up _ _).and (zan.up _)).and (zan.up _)
def zz6 (t : Tm) (L : List (Nat × Obj)) (q : TT × List (Nat × Obj)) : Prop := q.1.tm = t /\ TM q.1 q.2 /\ zcr L q.2
def zqx (q : TT × List (Nat × Obj)) : LRes := { v := ttA q.1, m := [], k := 0, F := zan q.2 }
set_option maxHeartbeats 8000000 in
theorem zi6 (t : TT) (hB : tmB t.tm) (L : List (Nat × Obj)) : zav Tryd.prog 89 [ttA t] [] 0 (cP t L) (zz6 t.tm L) zqx := by
 induction hsz : SizeOf.sizeOf t using Nat.strongRecOn generalizing t L with
 | _ z ih =>
 obtain ⟨k, n, s, la, lc, ls, aa, ac, us⟩ := t
 subst hsz
 rw [zbs] at hB ⊢
 have hB2 := hB
 unfold tmB at hB2
 obtain ⟨hB1, hBu, hBs⟩ := hB2
 rw [List.length_map] at hBu
 have hus : us.length <= 1759218604390 := by omega
 have hc131 := zey la lc ls hB1
 refine zas zac 28 [.cell 2 41] Tryd.func89 rfl rfl (by kernel_rfl) rfl _ (leB rfl) (cP.up _ _) ?_
 refine zai.told (p := I64 k /\ I64 n /\ s.size <= maxLen) (fun w h => ⟨h.1.1.node.hkind, h.1.1.node.hn, h.1.1.node.hname⟩) (fun hI => ?_)
 refine zaf zac [2] _ _ _ ?_
 refine zab [] hc131 rfl trivial rfl rfl (fun w h => ⟨h.1.1.node.hls, h.1.1.node.hla⟩) (fun _ _ => ⟨rfl, rfl⟩) (fun _ _ => ?_)
 refine zai.ent (st' := { s := [(1, .one (.p 0 0)), (2, .one (.p 1 0))], m := [(0, .cells 41 [.v (.int .i64 k), .v (.int .i64 n), .v (.string s), .row 2, .v (.slice aa us.length ac)]), (1, .cells 41 zap), (2, .own 24 5 ls.length (lvsC ls))], k := 3, f := [cP (TT.mk k n s la lc ls aa ac us) L] }) (zaa [(0, .blk 0), (1, .blk 1), (2, .own 2)] rfl rfl rfl rfl (leB rfl) ⟨⟨_, rfl, rfl⟩, ⟨_, rfl, rfl⟩, trivial⟩ ⟨⟨_, rfl, rfl⟩, ⟨_, rfl, rfl⟩, ⟨_, _, rfl, rfl, rfl⟩, trivial⟩ ⟨⟨cP.up _ _, fun w h => h.2.1⟩, trivial⟩) ?_
 refine zai.freezeO 2 rfl (fun LA LC Ml hrow hfr0 => ?_)
 have hMl : zcr L Ml := zcr.row hrow (hfr0 L (fun w h => h.1.2))
 clear hfr0
 refine zai.ent (st' := { s := [(1, .one (.p 0 0)), (2, .one (.p 1 0))], m := [(0, .cells 41 [.v (.int .i64 k), .v (.int .i64 n), .v (.string s), .v (.slice LA ls.length LC), .v (.slice aa us.length ac)]), (1, .cells 41 zap)], k := 2, f := [cO (TT.mk k n s la lc ls aa ac us) L Ml []] }) (zaa [(0, .blk 0), (1, .blk 1)] rfl rfl rfl rfl (leB rfl) (rs rfl rfl) (rm rfl rfl) ⟨⟨cO.up _ _ _ _, fun w h => ⟨⟨h.2.1, h.1⟩, zan.nil _⟩⟩, trivial⟩) ?_
 refine zaf zac [4] _ _ _ ?_
 refine zai.ent (st' := { s := [(1, .one (.p 0 0)), (2, .one (.p 1 0)), (3, .one (.v (.slice aa us.length ac)))], m := [(0, .cells 41 [.v (.int .i64 k), .v (.int .i64 n), .v (.string s), .v (.slice LA ls.length LC), .v (.slice none 0 0)]), (1, .cells 41 zap)], k := 2, f := [cO (TT.mk k n s la lc ls aa ac us) L Ml []] }) (zaa [(0, .blk 0), (1, .blk 1)] rfl rfl rfl rfl (leB rfl) (rs rfl rfl) (rm rfl rfl) ⟨⟨cO.up _ _ _ _, fun w h => h.1⟩, trivial⟩) ?_
 refine zai.ent (zfz 0 41 5 ([.v (.int .i64 k), .v (.int .i64 n), .v (.string s), .v (.slice LA ls.length LC), .row 2]) rfl (fun e he => ?_) (fun h => ?_)) ?_
 ·show _ :: _ :: _ :: _ :: [e.rv 2] = _
  rw [show e.rv 2 = Value.slice none 0 0 from he]
  rfl
 ·intro c hc
  simp only [List.mem_cons, List.not_mem_nil, or_false] at hc
  rcases hc with rfl | rfl | rfl | rfl | rfl
  ·rfl
  ·rfl
  ·rfl
  ·rfl
  ·exact Nat.lt_succ_self _
 refine zaf zac [6, 9] _ _ _ ?_
 refine ⟨⟨List TT × List (Nat × Obj), fun q => q.1.length <= us.length /\ q.1.map TT.tm = (us.map TT.tm).take q.1.length /\ TMs q.1 q.2 /\ zcr (Ml ++ L) q.2, fun q => { s := [(1, .one (.p 0 0)), (2, .one (.p 1 0)), (3, .one (.v (.slice aa us.length ac))), (13, .one (.v (.slice aa us.length ac))), (14, .one (.v (.int .i64 (us.length : Int)))), (15, .one (.v (.int .i64 (q.1.length : Int))))], m := [(0, .cells 41 [.v (.int .i64 k), .v (.int .i64 n), .v (.string s), .v (.slice LA ls.length LC), .row 2]), (1, .cells 41 zap), (2, .own 41 5 q.1.length (ttsC q.1))], k := 3, f := [cO (TT.mk k n s la lc ls aa ac us) L Ml q.2] }, fun q => us.length - q.1.length, ⟨([], []), ⟨Nat.zero_le _, rfl, by unfold TMs; rfl, by simp, fun p hp => (by cases hp)⟩, zaa [(0, .blk 0), (1, .blk 1), (2, .own 2)] rfl rfl rfl rfl (leB rfl) ⟨⟨_, rfl, rfl⟩, ⟨_, rfl, rfl⟩, ⟨_, rfl, rfl⟩, ⟨_, rfl, rfl⟩, ⟨_, rfl, rfl⟩, ⟨_, rfl, rfl⟩, trivial⟩ ⟨⟨_, rfl, rfl⟩, ⟨_, rfl, rfl⟩, ⟨_, _, rfl, rfl, rfl⟩, trivial⟩ ⟨⟨cO.up _ _ _ _, fun w h => h.1⟩, trivial⟩⟩, ?_⟩⟩
 rintro ⟨xs, S⟩ ⟨hj, hxs, hxs2, hxs3⟩
 have hj : xs.length <= us.length := hj
 have hxs : xs.map TT.tm = (us.map TT.tm).take xs.length := hxs
 have hxs2 : TMs xs S := hxs2
 have hxs3 : zcr (Ml ++ L) S := hxs3
 refine zad (fun hlt0 => ?_) (fun hge0 => ?_)
 rotate_left
 ·have hge : us.length = xs.length := by
   have h : decide ((xs.length : Int) < (us.length : Int)) = false := hge0
   have := of_decide_eq_false h
   omega
  refine zai.freezeO 2 rfl (fun B cp Ma hrow2 hfr2 => ?_)
  have hMa : zcr (S ++ (Ml ++ L)) Ma := zcr.row hrow2 (hfr2 _ (fun w h => zan.app.2 ⟨h.1.2, zan.app.2 ⟨h.1.1.2, h.1.1.1.2⟩⟩))
  clear hfr2
  refine zaf zac [] _ _ _ ?_
  refine ⟨_, rfl, (TT.mk k n s LA LC ls B cp xs, Ml ++ (Ma ++ S)), ⟨?_, ?_, ?_⟩, rfl, ?_⟩
  ·show (TT.mk k n s LA LC ls B cp xs).tm = _
   rw [zbs, hxs, <- hge, List.take_of_length_le (by simp)]
  ·show TM (TT.mk k n s LA LC ls B cp xs) _
   unfold TM
   exact ⟨hI.1, hI.2.1, hI.2.2, Ml, Ma, S, rfl, hrow, hrow2, hxs2⟩
  ·exact zcr.app hMl ((zcr.app hxs3 hMa).perm List.perm_append_comm)
  exact zaa [] rfl rfl rfl rfl (Nat.zero_le _) ⟨⟨_, rfl, rfl⟩, trivial⟩ trivial ⟨⟨zan.up _, fun w h => zan.app.2 ⟨h.2.1.1.2, zan.app.2 ⟨h.1, h.2.1.2⟩⟩⟩, trivial⟩
 have hlt : xs.length < us.length := by
  have h : decide ((xs.length : Int) < (us.length : Int)) = true := hlt0
  have := of_decide_eq_true h
  omega
 clear hlt0
 obtain ⟨u, hu⟩ : ∃ u, us[xs.length]? = some u := ⟨_, List.getElem?_eq_getElem hlt⟩
 have hmem := List.mem_of_getElem? hu
 have hrec := ih _ (zd5 hmem) u (zg0 hBs (List.mem_map_of_mem hmem)) (S ++ (Ml ++ L)) rfl
 have htk : (us.map TT.tm).take (xs.length + 1) = xs.map TT.tm ++ [u.tm] := by
  rw [List.take_add_one, <- hxs, List.getElem?_map, hu]
  rfl
 refine zai.told (p := ∃ a, aa = some a) (fun w h => ?_) ?_
 ·obtain ⟨⟨a, ha, _⟩, _⟩ := h.1.1.1.1.arg hu
  exact ⟨a, ha⟩
 rintro ⟨b0, rfl⟩
 obtain ⟨ut, hut⟩ : ∃ x, u.tm = x := ⟨_, rfl⟩
 rw [hut] at hrec htk
 obtain ⟨uk, un, unm, ula, ulc, uls, uaa, uac, uus⟩ := u
 refine zaf zac [7] _ _ _ ?_
 refine ⟨{ n := xs.length }, ⟨rfl, hlt, fun w h => rfl⟩, ?_⟩
 refine ⟨{ cs := (TT.mk uk un unm ula ulc uls uaa uac uus).cells }, ⟨TT.cells_one (TT.mk uk un unm ula ulc uls uaa uac uus), rfl, fun w h => ?_⟩, ?_⟩
 ·obtain ⟨⟨a, ha, hc⟩, _⟩ := h.1.1.1.1.arg hu
  cases ha
  exact ⟨_, rfl, hc⟩
 refine zai.ent (st' := { s := [(1, .one (.p 0 0)), (2, .one (.p 1 0)), (3, .one (.v (.slice (some b0) us.length ac))), (13, .one (.v (.slice (some b0) us.length ac))), (14, .one (.v (.int .i64 (us.length : Int)))), (15, .one (.v (.int .i64 (xs.length : Int)))), (5, .one (.p 3 0))], m := [(0, .cells 41 [.v (.int .i64 k), .v (.int .i64 n), .v (.string s), .v (.slice LA ls.length LC), .row 2]), (1, .cells 41 zap), (2, .own 41 5 xs.length (ttsC xs)), (3, .cells 41 ((TT.mk uk un unm ula ulc uls uaa uac uus).cells.map SA.v))], k := 4, f := [cO (TT.mk k n s la lc ls (some b0) ac us) L Ml S] }) (zaa [(0, .blk 0), (1, .blk 1), (2, .own 2), (3, .blk 3)] rfl rfl rfl rfl (leB rfl) ⟨⟨_, rfl, rfl⟩, ⟨_, rfl, rfl⟩, ⟨_, rfl, rfl⟩, ⟨_, rfl, rfl⟩, ⟨_, rfl, rfl⟩, ⟨_, rfl, rfl⟩, ⟨_, rfl, rfl⟩, trivial⟩ ⟨⟨_, rfl, rfl⟩, ⟨_, rfl, rfl⟩, ⟨_, _, rfl, rfl, rfl⟩, ⟨_, rfl, rfl⟩, trivial⟩ ⟨⟨cO.up _ _ _ _, fun w h => h.1⟩, trivial⟩) ?_
 have hfit1 : xs.length + 1 <= maxLen := by simp only [maxLen]; omega
 have hfit2 : (xs.length + 1) * 80 <= 140737488355328 := by omega
 refine zaf zac [] _ _ _ ?_
 let hS : List (Nat × SV) := [(1, .one (.p 0 0)), (2, .one (.p 1 0)), (3, .one (.v (.slice (some b0) us.length ac))), (13, .one (.v (.slice (some b0) us.length ac))), (14, .one (.v (.int .i64 (us.length : Int)))), (15, .one (.v (.int .i64 (xs.length : Int)))), (5, .one (.p 3 0))]
 let hM : List (Nat × LB) := [(0, .cells 41 [.v (.int .i64 k), .v (.int .i64 n), .v (.string s), .v (.slice LA ls.length LC), .row 2]), (1, .cells 41 zap), (2, .own 41 5 xs.length (ttsC xs)), (3, .cells 41 ((TT.mk uk un unm ula ulc uls uaa uac uus).cells.map SA.v))]
 let hF : List (World -> Prop) := [cO (TT.mk k n s la lc ls (some b0) ac us) L Ml S]
 refine .inr ⟨[0, 1, 0, 4, 12, 31, 63, 127], [3, 4, 5, 7], [(0, { dst := some 19, v := .one (.p 0 4), p := none, f := none }), (1, { dst := some 20, v := .one (.row 2), p := none, f := none }), (2, { dst := some 21, v := ttA (TT.mk uk un unm ula ulc uls uaa uac uus), p := none, f := none }), (6, { dst := some 25, v := .one (.p 0 4), p := none, f := none })], by kernel_rfl, rfl, by kernel_rfl, by kernel_rfl, rfl, rfl, rfl, rfl, ?_⟩
 refine zam ({ s := hS, m := hM, k := 4, f := hF }) [3] rfl (by kernel_rfl) (by kernel_rfl) ⟨⟨rfl, rfl⟩, ⟨rfl, rfl⟩, ⟨rfl, rfl⟩, ⟨rfl, rfl⟩, trivial⟩ ⟨?_, trivial⟩
 refine ⟨_, rfl, rfl, _, rfl, ?_⟩
 refine zab [] hrec rfl trivial rfl rfl (fun w h => ⟨(h.1.1.1.1.arg hu).2, zan.app.2 ⟨h.1.2, zan.app.2 ⟨h.1.1.2, h.1.1.1.2⟩⟩⟩) (fun x _ => ?_) (fun x hx => ?_)
 ·obtain ⟨⟨vk, vn, vnm, vla, vlc, vls, vaa, vac, vus⟩, S1⟩ := x
  exact ⟨rfl, rfl⟩
 obtain ⟨x, S1⟩ := x
 obtain ⟨hx, hx2, hx3⟩ := hx
 have hx : x.tm = ut := hx
 have hxm : (xs ++ [x]).map TT.tm = (us.map TT.tm).take (xs.length + 1) := by
  rw [List.map_append, htk, List.map_cons, hx]
  rfl
 have hxT : TMs (xs ++ [x]) (S ++ S1) := TMs.snoc hxs2 hx2
 have hxF : zcr (Ml ++ L) (S ++ S1) := zcr.app hxs3 hx3
 clear hx hx2 hx3
 obtain ⟨vk, vn, vnm, vla, vlc, vls, vaa, vac, vus⟩ := x
 let x3 : Nat × SV := (22, ttA (TT.mk vk vn vnm vla vlc vls vaa vac vus))
 let f3 : World -> Prop := zan S1
 let x4 : Nat × SV := (23, .one (.sl 4 0 1 1))
 let m4a : Nat × LB := (4, .cells 41 ((TT.mk vk vn vnm vla vlc vls vaa vac vus).cells.map SA.v))
 let x5 : Nat × SV := (24, .one (.row 5))
 let m5a : Nat × LB := (5, .own 41 5 (xs.length + 1) (ttsC xs ++ (TT.mk vk vn vnm vla vlc vls vaa vac vus).cells))
 let m5b : Nat × LB := (2, .dead)
 let m7a : Nat × LB := (0, .cells 41 [.v (.int .i64 k), .v (.int .i64 n), .v (.string s), .v (.slice LA ls.length LC), .row 5])
 refine zam ({ s := x3 :: hS, m := hM, k := 4, f := f3 :: hF }) [4] rfl (by kernel_rfl) (by kernel_rfl) ⟨⟨rfl, rfl⟩, ⟨rfl, rfl⟩, ⟨rfl, trivial⟩, ⟨rfl, rfl⟩, trivial⟩ ⟨?_, trivial⟩
 refine ⟨_, rfl, rfl, _, rfl, ?_⟩
 refine zam ({ s := x4 :: x3 :: hS, m := m4a :: hM, k := 5, f := f3 :: hF }) [5] rfl (by kernel_rfl) (by kernel_rfl) ⟨⟨rfl, rfl⟩, ⟨rfl, rfl⟩, ⟨rfl, trivial⟩, ⟨rfl, rfl⟩, trivial⟩ ⟨?_, trivial⟩
 refine ⟨_, rfl, rfl, _, rfl, ?_⟩
 refine ⟨{}, ⟨trivial, by decide, .inr rfl, hfit1, hfit2⟩, ?_⟩
 refine zam ({ s := x5 :: x4 :: x3 :: hS, m := m5a :: m5b :: m4a :: hM, k := 6, f := f3 :: hF }) [7] rfl (by kernel_rfl) (by kernel_rfl) ⟨⟨rfl, trivial⟩, ⟨rfl, trivial⟩, ⟨rfl, trivial⟩, ⟨rfl, rfl⟩, trivial⟩ ⟨?_, trivial⟩
 refine ⟨_, rfl, rfl, _, rfl, ?_⟩
 refine zcm _ rfl (by kernel_rfl) ⟨⟨rfl, trivial⟩, ⟨rfl, trivial⟩, ⟨rfl, trivial⟩, ⟨rfl, trivial⟩, trivial⟩ ?_
 exact ⟨(xs ++ [(TT.mk vk vn vnm vla vlc vls vaa vac vus)], S ++ S1), ⟨by simp only [List.length_append, List.length_singleton]; omega, by simp only [List.length_append, List.length_singleton]; exact hxm, hxT, hxF⟩, by simp only [List.length_append, List.length_singleton]; omega, zaa [(0, .blk 0), (1, .blk 1), (2, .own 5)] rfl rfl rfl rfl (leB rfl) ⟨⟨_, rfl, rfl⟩, ⟨_, rfl, rfl⟩, ⟨_, rfl, rfl⟩, ⟨_, rfl, rfl⟩, ⟨_, rfl, rfl⟩, ⟨_, rfl, by simp only [List.length_append, List.length_singleton]; exact oneI (za9 (by omega) (by omega))⟩, trivial⟩ ⟨⟨_, rfl, rfl⟩, ⟨_, rfl, rfl⟩, ⟨_, _, rfl, by simp, by simp [ttsC]⟩, trivial⟩ ⟨⟨cO.up _ _ _ _, fun w h => ⟨h.2.1.1, zan.app.2 ⟨h.2.1.2, h.1⟩⟩⟩, trivial⟩⟩
end Go.Proofs.YtmkpiekbpakigaaDoor
end
section
set_option linter.unusedVariables false
set_option linter.unusedSimpArgs false
namespace Go.Proofs.YtmkpiekbpakigaaDoor
open Go.RowKit Go.Proofs.Base Go.Proofs.Mono Go.Proofs.Sym
def zb1 (M : List (Nat × Obj)) : List Nat := M.map Prod.fst
theorem zaq (M N : List (Nat × Obj)) : zb1 (M ++ N) = zb1 M ++ zb1 N := by simp [zb1]
def InK (M : List (Nat × Obj)) (g : Nat) : Prop := g ∈ zb1 M
theorem zp5 {H : Nat -> Prop} {w : World} {M : List (Nat × Obj)} (h : zan M (hide H w)) : ∀ g, InK M g -> ¬ H g := by
 intro g hg hH
 obtain ⟨p, hp, rfl⟩ := List.mem_map.1 hg
 obtain ⟨h1, h2⟩ := h p hp
 rw [zcx] at h2
 cases hw : w.heap[p.1]? with
 | none => rw [hw] at h2; cases h2
 | some o =>
  rw [hw] at h2
  simp only [Option.map_some, hH, if_true, Option.some.injEq] at h2
  exact h1 h2.symm
theorem zqi {H : Nat -> Prop} {w : World} {M : List (Nat × Obj)} (h : zan M w) (hn : ∀ g, InK M g -> ¬ H g) : zan M (hide H w) :=
 fun p hp => ⟨(h p hp).1, zb5 (h p hp).2 (hn _ (List.mem_map_of_mem hp))⟩
theorem Mem.wrote {cx : Cx} {e : Env} {m : List (Nat × LB)} {k : Nat} {f : List (World -> Prop)} {w w' : World} (hm : Mem cx e m k f w) {M : List (Nat × Obj)} (hG : ∀ g, InK M g -> cx.w0.heap.size <= g \/ cx.G g) (hO : ∀ g, InK M g -> ¬ Sym.Own e m g)
  (hfr : Fr (InK M) w w') {F : World -> Prop} (hU : Up F) (hF : F (hide (fun g => cx.H g \/ Sym.Own e m g) w')) : Mem cx e m k [F] w' := by
 have hsame : ∀ {i g}, At e m i g -> w'.heap[g]? = w.heap[g]? := fun {i g} hg => hfr.block g (hm.lt hg) (fun hx => hO g hx ⟨i, hg⟩)
 refine ⟨hm.fr.trans hfr (fun g hlt hg => (hG g hg).resolve_left (by omega)), hm.ids, hm.low, fun i t cs hi => ?_, fun i E z n xs hi => ?_, hm.sc, hm.free, hm.apart, fun G hG => ?_, fun G hG => ?_⟩
 ·exact (hsame ⟨_, hi, rfl⟩).trans (hm.cells i t cs hi)
 ·exact zd4 (hm.own i E z n xs hi) fun g hg => hsame ⟨_, hi, hg⟩
 ·rw [List.mem_singleton.1 hG]; exact hU
 ·rw [List.mem_singleton.1 hG]; exact hF
theorem Mem.swap {cx : Cx} {e : Env} {m : List (Nat × LB)} {k : Nat} {f : List (World -> Prop)} {w w' : World} (hm : Mem cx e m k f w) {A M M' B : List (Nat × Obj)} (hf : ∀ w, AllF f w -> zan (A ++ (M ++ B)) w) (hG : ∀ g, InK M g -> cx.w0.heap.size <= g \/ cx.G g) (hnd : (zb1 (A ++ (M ++ B))).Nodup)
  (hfr : Fr (InK M) w w') (hM' : zan M' w') (hk : zb1 M' = zb1 M) : Mem cx e m k [zan (A ++ (M' ++ B))] w' := by
 have hsee := hf _ hm.hidden
 have hn := zp5 hsee
 have hsub : ∀ {g}, InK M g -> InK (A ++ (M ++ B)) g := fun {g} hg => by
  unfold InK at *
  rw [zaq, zaq]
  exact List.mem_append_right _ (List.mem_append_left _ hg)
 refine Mem.wrote hm hG (fun g hg hx => hn g (hsub hg) (.inr hx)) hfr (zan.up _) (zqi ?_ fun g hg => hn g ?_)
 ·have hw : zan (A ++ (M ++ B)) w := zan.up _ _ _ (zik _ w) hsee
  obtain ⟨hA, hMB⟩ := zan.app.1 hw
  obtain ⟨_, hB⟩ := zan.app.1 hMB
  rw [zaq, zaq, List.nodup_append] at hnd
  obtain ⟨_, hnd2, hdis⟩ := hnd
  rw [List.nodup_append] at hnd2
  have hkeep : ∀ {p : Nat × Obj}, w.heap[p.1]? = some p.2 -> p.1 ∉ zb1 M -> w'.heap[p.1]? = some p.2 := fun {p} hp hno =>
   (hfr.block p.1 (Array.getElem?_eq_some_iff.1 hp).1 hno).trans hp
  refine zan.app.2 ⟨fun p hp => ⟨(hA p hp).1, hkeep (hA p hp).2 fun hx => hdis p.1 (List.mem_map_of_mem hp) p.1 (List.mem_append_left _ hx) rfl⟩, zan.app.2 ⟨hM', fun p hp => ⟨(hB p hp).1, hkeep (hB p hp).2 fun hx => hnd2.2.2 p.1 hx p.1 (List.mem_map_of_mem hp) rfl⟩⟩⟩
 ·unfold InK at *
  rw [zaq, zaq, hk] at hg
  rw [zaq, zaq]
  exact hg
section
variable {P : Program} {T : Sym.Tab} {N : Nat} {Cc : Cx -> Prop} {o : Oper} {st : St} {Kx : SV -> St -> Prop}
theorem OpX.callM (hT : T.Ok P) {f : FuncId} {args : List SV} {vals : List Value} (hs : sig T st o = .call f args) (ha : ∀ e, args.map (SV.real e) = vals) (hb : zga P f) {A M B : List (Nat × Obj)} {R : Value -> List (Nat × Obj) -> Prop}
  (hf : ∀ w, AllF st.f w -> zan (A ++ (M ++ B)) w) (hG : ∀ cx, Cc cx -> ∀ g, InK M g -> cx.w0.heap.size <= g \/ cx.G g) (hnd : (zb1 (A ++ (M ++ B))).Nodup)
  (hcall : ∀ w, zan M w -> Calls P f vals.toArray w fun en w' => ∃ r M', en = .returned r /\ R r M' /\ zb1 M' = zb1 M /\ zan M' w' /\ Fr (InK M) w w')
  (hK : ∀ r M', R r M' -> zb1 M' = zb1 M -> Kx (.one (.v r)) { st with f := [zan (A ++ (M' ++ B))] }) : OpX P N Cc o st Kx := by
 refine ⟨fun cx e a w hc hn hS next Q hnext => ?_⟩
 have hok := zfc (o := o) hT hS
 rw [hs] at hok
 have hw := hf _ hS.mem.fact
 unfold Oper.wp
 rw [hok.2 hb, ha]
 refine (hcall w (zan.app.1 (zan.app.1 hw).2).1).mono ?_
 rintro en w' ⟨r, M', rfl, hR, hk, hM', hfr⟩
 exact hnext e { st with f := [zan (A ++ (M' ++ B))] } (.one (.v r)) w' (hK r M' hR hk) (Env.eqTo.refl _ _) (Nat.le_refl _) trivial rfl (Mem.swap hS.mem hf (hG cx hc) hnd hfr hM' hk)
theorem OpX.storeM (hT : T.Ok P) {t : TypeId} {x y : Operand} (ho : o.op = .store t x y) {ti : TyI} (hti : get t T.ty = some ti) {g off E : Nat} {cur : Array Value} {us : List Value} {v : SV} (hx : ev st.s x = some (.one (.v (.pointer (some ⟨g, off, none⟩))))) (hy : ev st.s y = some v) (hv : ∀ e, (v.real e).cells = us.toArray)
  (hul : us.length = ti.size) (hone : ∀ u ∈ us, u.oneCell' = true) (hle : off + us.length <= cur.size) {A B : List (Nat × Obj)} (hf : ∀ w, AllF st.f w -> zan (A ++ ([(g, .cells cur E (0, 0))] ++ B)) w) (hG : ∀ cx, Cc cx -> cx.w0.heap.size <= g \/ cx.G g) (hnd : (zb1 (A ++ ([(g, Obj.cells cur E (0, 0))] ++ B))).Nodup)
  (hK : Kx (.one (.v undef)) { st with f := [zan (A ++ ([(g, .cells (cur.toList.take off ++ (us ++ cur.toList.drop (off + us.length))).toArray E (0, 0))] ++ B))] }) : OpX P N Cc o st Kx := by
 refine ⟨fun cx e a w hc hn hS next Q hnext => ?_⟩
 have hw := hf _ hS.mem.fact
 have hbk : Blk w g E cur.toList.toArray := ((zan.app.1 (zan.app.1 hw).2).1 _ List.mem_cons_self).2
 have hx2 : a.eval x = .pointer (some ⟨g, off, none⟩) := (hS.ev hx).2
 have hy2 : a.eval y = v.real e := (hS.ev hy).2
 have hst := run_storeCells_cells (P := P) g off us 0 w (fun l hl => by
  rw [hbk.cell]
  have : off + 0 + l < cur.toList.length := by simp only [Array.length_toList]; omega
  rw [List.getElem?_toArray, List.getElem?_eq_getElem this]; rfl) (fun l hl => hbk.frozen _) hone
 have hrun : (execOp a.eval o).run P w = .ok .skip (w.setCells g off us) := by
  simp only [execOp, ho, Instr.storeAt, storeVar, Sem.run_bind, hx2, hy2, Instr.sureAddr, Sem.run_pure, Result.andThen_ok, hT.size hti, hv]
  simp only [List.size_toArray, hul, ne_eq, not_true_eq_false, if_false, Sem.run_pure, Result.andThen_ok]
  rw [hst]
  simp
 unfold Oper.wp
 rw [hrun]
 have hnew := zdd g us off w E cur.toList hbk (by simp only [Array.length_toList]; omega)
 obtain ⟨r1, r2, r3, r4⟩ := zbg g us off w
 refine hnext e _ (.one (.v undef)) _ hK (Env.eqTo.refl _ _) (Nat.le_refl _) trivial rfl (Mem.swap hS.mem (M := [(g, .cells cur E (0, 0))]) hf (fun q hq => ?_) hnd ⟨r1, r2, r3, Nat.le_of_eq r4.symm, fun q hq hno => zd2 g us off w q (fun e1 => hno ?_)⟩ (fun p hp => ?_) rfl)
 ·rw [show q = g from List.mem_singleton.1 hq]
  exact hG cx hc
 ·rw [e1]; exact List.mem_cons_self
 ·rw [List.mem_singleton.1 hp]
  exact ⟨fun h => (by cases h), hnew⟩
end
def endM (T : Sym.Tab) (rs : List ResultVar) (R : Value -> List (Nat × Obj) -> Prop) : Exit -> St -> Prop
 | .normal, st => ∃ v r M, zgl T st rs = some v /\ (∀ e, v.real e = r) /\ R r M /\ ∀ w, AllF st.f w -> zan M w
 | .ret, st => ∃ v r M, zgl T st rs = some v /\ (∀ e, v.real e = r) /\ R r M /\ ∀ w, AllF st.f w -> zan M w
 | _, _ => False
theorem zsx {P : Program} {T : Sym.Tab} (hT : T.Ok P) {f : FuncId} {fn : Func} {c : Code} (N : Nat) (rs : List ResultVar) (hf : P.funcs[f]? = some fn) (hN : fn.ntmps = N) (hrs : fn.results.toList = rs) (hb : fn.body = some c) (args : List Value) (hl : args.length <= N)
  {M : List (Nat × Obj)} {R : Value -> List (Nat × Obj) -> Prop} (h : zaw P N (fun cx => ∀ g, InK M g -> cx.G g) c (endM T rs R) { s := zfu 0 (args.map fun v => .one (.v v)), m := [], k := 0, f := [zan M] }) {w : World} (hM : zan M w) :
  Calls P f args.toArray w fun en w' => ∃ r M', en = .returned r /\ R r M' /\ zan M' w' /\ Fr (InK M) w w' := by
 subst hN hrs
 refine calls_of_wp hf hb ?_
 refine wp_mono (h.run ⟨w, InK M, fun _ => False, fun _ h => h.elim, fun _ _ h => h, ⟨fun _ => 0, fun _ => (none, 0, 0)⟩, 0, fn.ntmps, []⟩ ⟨fun _ => 0, fun _ => (none, 0, 0)⟩ _ w (fun g hg => hg) rfl ?_) ?_
 ·refine ⟨rfl, by simp; omega, rfl, fun i v hi => ?_, ?_⟩
  ·obtain ⟨_, h2⟩ := zhc hi
   simp only [Nat.sub_zero, List.getElem?_map] at h2
   cases hq : args[i]? with
   | none => rw [hq] at h2; cases h2
   | some x =>
    rw [hq] at h2
    cases h2
    refine ⟨trivial, ?_⟩
    have hi := (List.getElem?_eq_some_iff.1 hq).1
    rw [Array.getElem?_append_left (by simpa using hi)]
    simpa [SV.real, SA.real] using hq
  ·have hat : ∀ {i g}, ¬ At ⟨fun _ => 0, fun _ => (none, 0, 0)⟩ [] i g := fun ⟨b, hb, _⟩ => by cases hb
   refine ⟨Fr.refl _ _, fun i hi => (by cases hi), Nat.le_refl _, fun i t cs hi => (by cases hi), fun i E z n xs hi => (by cases hi), fun i b hi => (by cases hi), fun i g hg => absurd hg hat, fun i j g hg => absurd hg hat, fun F hF => ?_, fun F hF => ?_⟩
   ·rw [List.mem_singleton.1 hF]
    exact zan.up _
   ·rw [List.mem_singleton.1 hF]
    refine zqi hM fun g _ hx => ?_
    rcases hx with hx | ⟨i, hx⟩
    ·exact hx
    ·exact absurd hx hat
 ·rintro ex a' w' ⟨e', st', hK, hS'⟩
  have fin : (∃ v r M', zgl T st' fn.results.toList = some v /\ (∀ e, v.real e = r) /\ R r M' /\ ∀ w, AllF st'.f w -> zan M' w) -> a'.defers = [] /\ ∃ v, (results fn a'.tmps).run P w' = .ok v w' /\ ∃ r M', Ending.returned v = .returned r /\ R r M' /\ zan M' w' /\ Fr (InK M) w w' := by
   rintro ⟨v, r, M', hv, hr, hR, hM'⟩
   exact ⟨hS'.defers, _, zg9 hT hS' hv, r, M', by rw [hr], hR, hM' _ hS'.mem.fact, hS'.mem.fr⟩
  cases ex with
  | normal => exact fin hK
  | ret => exact fin hK
  | _ => exact hK.elim
theorem zai.at {P : Program} {N : Nat} {c : Code} {K : Exit -> St -> Prop} {st : St} (h : ∀ cx0 : Cx, zaw P N (fun cx => cx = cx0) c K st) : zai P N c K st :=
 ⟨fun cx e a w hn hS => (h cx).run cx e a w rfl hn hS⟩
structure zcq (P : Program) (N : Nat) (Cc : Cx -> Prop) (ops : Array Oper) (K : Exit -> St -> Prop) (rest : List Oper) (st : St) : Prop where
 run : ∀ (cx : Cx) (e : Env) (a : Act) (w : World), Cc cx -> cx.n = N -> Sat cx e st a w -> wpList P ops (Post cx K) rest a w
section
variable {P : Program} {T : Sym.Tab} {N : Nat} {Cc : Cx -> Prop} {ops : Array Oper} {K : Exit -> St -> Prop}
theorem zcq.of {rest : List Oper} {st : St} (h : zbo P N ops K rest st) : zcq P N Cc ops K rest st := ⟨fun cx e a w _ hn hS => h.run cx e a w hn hS⟩
theorem zcq.ent {rest : List Oper} {st st' : St} (he : Ent st st') (h : zcq P N Cc ops K rest st') : zcq P N Cc ops K rest st :=
 ⟨fun cx e a w hc hn hS => let ⟨e', hS'⟩ := he.run cx e a w hS; h.run cx e' a w hc hn hS'⟩
theorem zaw.parts {id : Nat} {st : St} (h : zcq P N Cc ops K ops.toList st) : zaw P N Cc (.region id ops false) K st :=
 ⟨fun cx e a w hc hn hS => wp_region_list (h.run cx e a w hc hn hS)⟩
theorem zcq.op {o : Oper} {rest : List Oper} {st : St} (hg : o.guard = none) (h : OpX P N Cc o st (fun v st' => zcq P N Cc ops K rest (({ st' with s := st.s } : St).put N o.dst v))) : zcq P N Cc ops K (o :: rest) st := by
 refine ⟨fun cx e a w hc hn hS => wpList_step fun next hnext => ?_⟩
 rw [if_pos (zaz hg _)]
 refine h.run cx e a w hc hn hS _ _ fun e' st' v w' hK he hk hv hb hm => hnext _ _ (hK.run cx e' _ w' hc hn ?_)
 subst hn
 exact zbq (st' := { st' with s := st.s }) hS he hk rfl hb hv hm o.dst
end
theorem zav.pc {P : Program} {f : FuncId} {args : List SV} {vals : List Value} {pre : World -> Prop} {X : Type} {ok : X -> Prop} {ret : X -> LRes} (h : zav P f args [] 0 pre ok ret) (ha : ∀ e, args.map (SV.real e) = vals) (hlt : ∀ x ∈ args, x.lt 0) (hch : ∀ x, ok x -> (ret x).ch = none)
  (w : World) (H : Nat -> Prop) (hH : ∀ g, H g -> g < w.heap.size) (hp : pre (hide H w)) : zga P f /\ Calls P f vals.toArray w fun en w' => ∃ x e', ok x /\ en = .returned ((ret x).v.real e') /\ (ret x).F (hide H w') /\ Below w.heap.size w w' := by
 have hat : ∀ {i g}, ¬ At ⟨fun _ => 0, fun _ => (none, 0, 0)⟩ [] i g := fun ⟨b, hb, _⟩ => by cases hb
 obtain ⟨h1, h2⟩ := h.run ⟨w, fun _ => False, H, hH, fun _ h => h.elim, ⟨fun _ => 0, fun _ => (none, 0, 0)⟩, 0, 0, []⟩ ⟨fun _ => 0, fun _ => (none, 0, 0)⟩ w rfl rfl rfl
  ⟨Fr.refl _ _, fun i hi => (by cases hi), Nat.le_refl _, fun i t cs hi => (by cases hi), fun i E z n xs hi => (by cases hi), fun i b hi => (by cases hi), fun i g hg => absurd hg hat, fun i j g hg => absurd hg hat, fun F hF => (by rw [List.mem_singleton.1 hF]; exact h.up), fun F hF => (by
   rw [List.mem_singleton.1 hF]
   refine h.up _ _ (zax fun g o hg hn => ⟨hg, fun hx => hn ?_⟩) hp
   rcases hx with hx | ⟨i, hx⟩
   ·exact hx
   ·exact absurd hx hat)⟩ hlt
 refine ⟨h1, ?_⟩
 rw [ha] at h2
 refine h2.mono ?_
 rintro en w' ⟨e', x, hx, rfl, hv, hm⟩
 refine ⟨x, e', hx, ?_, (hm.seen).1, hm.fr.below⟩
 unfold LRes.en
 rw [hch x hx]
open Classical in
noncomputable def zu8 (w : World) : List (Nat × Obj) := (List.range w.heap.size).filterMap fun g => match w.heap[g]? with
 | some o => if o = dum then none else some (g, o)
 | none => none
theorem zsl (w : World) : zan (zu8 w) w := by
 intro p hp
 obtain ⟨g, _, hg⟩ := List.mem_filterMap.1 hp
 cases ho : w.heap[g]? with
 | none => rw [ho] at hg; cases hg
 | some o =>
  rw [ho] at hg
  simp only at hg
  split at hg
  ·cases hg
  ·rename_i hne
   cases hg
   exact ⟨hne, ho⟩
theorem zrc {w : World} {g : Nat} {o : Obj} (h : w.heap[g]? = some o) (ho : o ≠ dum) : (g, o) ∈ zu8 w :=
 List.mem_filterMap.2 ⟨g, List.mem_range.2 (Array.getElem?_eq_some_iff.1 h).1, by rw [h]; simp [ho]⟩
theorem zfy (x : TT) (e : Env) : (ttA x).real e = x.val := by
 show Value.agg (reals e (x.cells.map SA.v)).toArray = _
 rw [zbd]
 rfl
theorem OpX.clone {N : Nat} {cx0 : Cx} {o : Oper} {st : St} {Kx : SV -> St -> Prop} {t : TT} (hs : sig tab st o = .call 89 [ttA t]) (hB : tmB t.tm) (hf : ∀ w, AllF st.f w -> TTIn w t)
  (hK : ∀ x M, x.tm = t.tm -> TM x M -> (zb1 M).Nodup -> (∀ g, InK M g -> cx0.w0.heap.size <= g) -> Kx (ttA x) { st with f := zan M :: st.f }) : OpX Tryd.prog N (fun cx => cx = cx0) o st Kx := by
 refine ⟨fun cx e a w hc hn hS next Q hnext => ?_⟩
 subst hc
 have hok := zfc (o := o) zac hS
 rw [hs] at hok
 have hvis := hf _ hS.mem.hidden
 obtain ⟨hb, hcall⟩ := zav.pc (vals := [t.val]) (zi6 t hB (zu8 (hide (fun g => cx.H g \/ Sym.Own e st.m g) w))) (fun e => by simp [zfy]) (fun x hx => by
  rw [List.mem_singleton.1 hx]
  intro y hy
  obtain ⟨v, hv, rfl⟩ := List.mem_map.1 hy
  exact t.cells_one v hv) (fun _ _ => rfl) w _ hS.mem.hid ⟨hvis, zsl _⟩
 unfold Oper.wp
 rw [hok.2 hb]
 have e1 : [ttA t].map (SV.real e) = [t.val] := by simp [zfy]
 rw [e1]
 refine hcall.mono ?_
 rintro en w' ⟨⟨x, M⟩, e', ⟨hx1, hx2, hx3⟩, rfl, hF, hbel⟩
 have hx1 : x.tm = t.tm := hx1
 have hx2 : TM x M := hx2
 have hF : zan M (hide (fun g => cx.H g \/ Sym.Own e st.m g) w') := hF
 have hfresh : ∀ g, InK M g -> w.heap.size <= g := by
  intro g hg
  refine Nat.le_of_not_lt fun hlt => ?_
  have hnh := zp5 hF g hg
  obtain ⟨p, hp, rfl⟩ := List.mem_map.1 hg
  obtain ⟨h1, h2⟩ := hF p hp
  have h3 : w'.heap[p.1]? = some p.2 := (zik _ _) _ _ h2 h1
  have h4 : w.heap[p.1]? = some p.2 := (hbel.block p.1 hlt).symm.trans h3
  exact hx3.2 p hp _ (zrc (zb5 h4 hnh) h1) rfl
 have e2 : (zqx (x, M)).v.real e' = (ttA x).real e := (zfy x e').trans (zfy x e).symm
 rw [e2]
 refine hnext e { st with f := zan M :: st.f } (ttA x) w' (hK x M hx1 hx2 hx3.1 fun g hg => Nat.le_trans hS.mem.fr.size (hfresh g hg)) (Env.eqTo.refl _ _) (Nat.le_refl _) ?_ rfl ((hS.mem.later hbel).add (zan.up _) hF)
 intro y hy
 obtain ⟨v, hv, rfl⟩ := List.mem_map.1 hy
 exact x.cells_one v hv
end Go.Proofs.YtmkpiekbpakigaaDoor
end
section
set_option linter.unusedVariables false
set_option linter.unusedSimpArgs false
namespace Go.Proofs.YtmkpiekbpakigaaDoor
open Go.RowKit Go.Proofs.Base Go.Proofs.Mono Go.Proofs.Sym
def renN (a b : ByteArray) (k : Int) (s : ByteArray) : ByteArray := match (decide (k = 4) || decide (k = 9)) && decide (s = a) with
 | true => b
 | false => s
mutual
def renT (a b : ByteArray) : TT -> TT
 | .mk k n s la lc ls aa ac us => .mk k n (renN a b k s) la lc ls aa ac (zjy a b us)
def zjy (a b : ByteArray) : List TT -> List TT
 | [] => []
 | u :: r => renT a b u :: zjy a b r
end
mutual
def renM (a b : ByteArray) : Tm -> Tm
 | .mk k n s ls us => .mk k n (renN a b k s) ls (zdp a b us)
def zdp (a b : ByteArray) : List Tm -> List Tm
 | [] => []
 | u :: r => renM a b u :: zdp a b r
end
theorem zgo (a b : ByteArray) : ∀ us : List TT, zjy a b us = us.map (renT a b)
 | [] => by unfold zjy; rfl
 | u :: r => by unfold zjy; rw [zgo a b r]; rfl
mutual
theorem ztb (a b : ByteArray) : ∀ t : TT, (renT a b t).tm = renM a b t.tm
 | .mk k n s la lc ls aa ac us => by
  unfold renT
  rw [zbs, zbs]
  unfold renM
  rw [zqo a b us]
theorem zqo (a b : ByteArray) : ∀ us : List TT, (zjy a b us).map TT.tm = zdp a b (us.map TT.tm)
 | [] => by unfold zjy zdp; rfl
 | u :: r => by
  unfold zjy
  rw [List.map_cons, List.map_cons, ztb a b u, zqo a b r]
  conv => rhs; unfold zdp
end
def mixT (a b : ByteArray) (us : List TT) (i : Nat) : List TT := (us.take i).map (renT a b) ++ us.drop i
theorem zod {a b : ByteArray} {us : List TT} {i : Nat} {u : TT} (h : us[i]? = some u) : mixT a b us i = (us.take i).map (renT a b) ++ (u :: us.drop (i + 1)) := by
 unfold mixT
 rw [List.drop_eq_getElem_cons (List.getElem?_eq_some_iff.1 h).1, (List.getElem?_eq_some_iff.1 h).2]
theorem zmi {a b : ByteArray} {us : List TT} {i : Nat} {u : TT} (h : us[i]? = some u) : mixT a b us (i + 1) = (us.take i).map (renT a b) ++ (renT a b u :: us.drop (i + 1)) := by
 unfold mixT
 rw [List.take_add_one, h]
 simp
theorem zk2 : ∀ ts : List TT, (ttsC ts).length = ts.length * 5
 | [] => rfl
 | t :: r => by
  show (t.cells ++ ttsC r).length = _
  rw [List.length_append, zk2 r, t.cells_len, List.length_cons]
  omega
theorem zlw (xs ys : List TT) : ttsC (xs ++ ys) = ttsC xs ++ ttsC ys := by simp [ttsC]
theorem zwa {cur : List Value} {xs ys : List TT} {u x : TT} {n i : Nat} (h : cur.take (n * 5) = ttsC (xs ++ (u :: ys))) (hi : xs.length = i) (hn : n = i + 1 + ys.length) (hle : n * 5 <= cur.length) : (cur.take (i * 5) ++ (x.cells ++ cur.drop (i * 5 + x.cells.length))).take (n * 5) = ttsC (xs ++ (x :: ys)) := by
 have hc : cur = ttsC xs ++ (u.cells ++ (ttsC ys ++ cur.drop (n * 5))) := by
  conv => lhs; rw [<- List.take_append_drop (n * 5) cur, h, zlw]
  show ttsC xs ++ (u.cells ++ ttsC ys) ++ _ = _
  simp
 have hl : (ttsC xs).length = i * 5 := by rw [zk2, hi]
 have e1 : cur.take (i * 5) = ttsC xs := by
  rw [hc, List.take_left' hl]
 have e2 : cur.drop (i * 5 + x.cells.length) = ttsC ys ++ cur.drop (n * 5) := by
  have e3 : cur.drop (i * 5 + x.cells.length) = (ttsC xs ++ (u.cells ++ (ttsC ys ++ cur.drop (n * 5)))).drop (i * 5 + x.cells.length) := congrArg _ hc
  rw [e3, <- List.drop_drop, List.drop_left' hl, List.drop_left' (by rw [u.cells_len, x.cells_len])]
 rw [e1, e2, zlw]
 show (ttsC xs ++ (x.cells ++ (ttsC ys ++ cur.drop (n * 5)))).take (n * 5) = ttsC xs ++ (x.cells ++ ttsC ys)
 rw [<- List.append_assoc x.cells, <- List.append_assoc (ttsC xs)]
 refine List.take_left' ?_
 rw [List.length_append, List.length_append, hl, x.cells_len, zk2, hn]
 omega
def zsb (a b : ByteArray) (x : TT) (sl : List (Nat × SV)) (F : World -> Prop) : St :=
 { s := sl ++ [(1, .one (.v (.string a))), (2, .one (.v (.string b))), (3, .one (.p 0 0)), (6, .one (.p 1 0))], m := [(0, .cells 41 (x.cells.map SA.v)), (1, .cells 41 zap)], k := 2, f := [F] }
def renR (a b : ByteArray) (x : TT) (r : Value) (M' : List (Nat × Obj)) : Prop := r = (renT a b x).val /\ TM (renT a b x) M'
theorem zqa : zga Tryd.prog 88 := ⟨_, Tryd.func88, by kernel_rfl, rfl⟩
def rnOk (a b : ByteArray) (us : List TT) (aa : Option Addr) (ac : Nat) (Ka Ks : List Nat) (q : Nat × List (Nat × Obj) × List (Nat × Obj)) : Prop :=
 q.1 <= us.length /\ RowO 41 5 aa us.length ac (ttsC (mixT a b us q.1)) q.2.1 /\ TMs (mixT a b us q.1) q.2.2 /\ zb1 q.2.1 = Ka /\ zb1 q.2.2 = Ks
set_option maxHeartbeats 8000000 in
theorem zlg (a b : ByteArray) (hb : b.size <= maxLen) (x : TT) : ∀ (M : List (Nat × Obj)), TM x M -> (zb1 M).Nodup -> ∀ w, zan M w -> Calls Tryd.prog 88 [x.val, .string a, .string b].toArray w fun en w' => ∃ r M', en = .returned r /\ renR a b x r M' /\ zb1 M' = zb1 M /\ zan M' w' /\ Fr (InK M) w w' := by
 induction hsz : SizeOf.sizeOf x using Nat.strongRecOn generalizing x with
 | _ z ih =>
 intro M hM hnd w hw
 obtain ⟨k, n, s, la, lc, ls, aa, ac, us⟩ := x
 subst hsz
 unfold TM at hM
 obtain ⟨hk, hn, hs, Ml, Ma, Ms, rfl, hl, ha, hsub⟩ := hM
 refine (zsx zac (R := fun r M' => renR a b (.mk k n s la lc ls aa ac us) r M' /\ zb1 M' = zb1 (Ml ++ (Ma ++ Ms))) 43 [.cell 6 41] Tryd.func88 rfl rfl rfl [TT.val (.mk k n s la lc ls aa ac us), .string a, .string b] (leB rfl) ?_ hw).mono (fun en w' ⟨r, M', h1, ⟨h2, h3⟩, h4, h5⟩ => ⟨r, M', h1, h2, h3, h4, h5⟩)
 obtain ⟨s', hs'⟩ : ∃ y, renN a b k s = y := ⟨_, rfl⟩
 have hsz' : s'.size <= maxLen := by
  rw [<- hs']
  unfold renN
  split
  ·exact hb
  ·exact hs
 -- the node itself
 refine zaw.cutX (X := Unit) (fun _ => True) (fun _ => zsb a b (.mk k n s la lc ls aa ac us) [] (zan (Ml ++ (Ma ++ Ms)))) (zaf zac [] _ _ _ ?_) (fun _ _ => ?_)
 ·exact ⟨(), trivial, zaa [(0, .blk 0), (1, .blk 1)] rfl rfl rfl rfl (leB rfl) (rs rfl rfl) (rm rfl rfl) ⟨⟨zan.up _, fun w h => h.1⟩, trivial⟩⟩
 refine zaw.cutX (X := Unit) (fun _ => True) (fun _ => zsb a b (.mk k n s' la lc ls aa ac us) [] (zan (Ml ++ (Ma ++ Ms)))) (zaf zac [] _ _ _ ?_) (fun _ _ => ?_)
 ·have hE : ∀ (d4 d9 ds : Bool), decide (k = 4) = d4 -> decide (k = 9) = d9 -> decide (s = a) = ds -> s' = (match (d4 || d9) && ds with | true => b | false => s) := by
   rintro d4 d9 ds rfl rfl rfl
   exact hs'.symm
  refine zad (fun h4 => ?_) (fun h4 => ?_)
  ·have h4 : decide (k = 4) = true := h4
   refine zad (fun h5 => ?_) (fun h5 => ?_)
   ·have h5 : decide (s = a) = true := h5
    have e : s' = b := hE _ _ _ h4 rfl h5
    subst e
    exact ⟨(), trivial, zaa [(0, .blk 0), (1, .blk 1)] rfl rfl rfl rfl (leB rfl) (rs rfl rfl) (rm rfl rfl) ⟨⟨zan.up _, fun w h => h.1⟩, trivial⟩⟩
   ·have h5 : decide (s = a) = false := h5
    have e : s' = s := hE _ _ _ h4 rfl h5
    subst e
    exact ⟨(), trivial, zaa [(0, .blk 0), (1, .blk 1)] rfl rfl rfl rfl (leB rfl) (rs rfl rfl) (rm rfl rfl) ⟨⟨zan.up _, fun w h => h.1⟩, trivial⟩⟩
  ·have h4 : decide (k = 4) = false := h4
   refine zad (fun h9 => ?_) (fun h9 => ?_)
   ·have h9 : decide (k = 9) = true := h9
    refine zad (fun h5 => ?_) (fun h5 => ?_)
    ·have h5 : decide (s = a) = true := h5
     have e : s' = b := hE _ _ _ h4 h9 h5
     subst e
     exact ⟨(), trivial, zaa [(0, .blk 0), (1, .blk 1)] rfl rfl rfl rfl (leB rfl) (rs rfl rfl) (rm rfl rfl) ⟨⟨zan.up _, fun w h => h.1⟩, trivial⟩⟩
    ·have h5 : decide (s = a) = false := h5
     have e : s' = s := hE _ _ _ h4 h9 h5
     subst e
     exact ⟨(), trivial, zaa [(0, .blk 0), (1, .blk 1)] rfl rfl rfl rfl (leB rfl) (rs rfl rfl) (rm rfl rfl) ⟨⟨zan.up _, fun w h => h.1⟩, trivial⟩⟩
   ·have h9 : decide (k = 9) = false := h9
    have e : s' = s := hE _ _ _ h4 h9 rfl
    subst e
    exact ⟨(), trivial, zaa [(0, .blk 0), (1, .blk 1)] rfl rfl rfl rfl (leB rfl) (rs rfl rfl) (rm rfl rfl) ⟨⟨zan.up _, fun w h => h.1⟩, trivial⟩⟩
 -- its Args
 have hT : ∀ Ma2 Ms2, RowO 41 5 aa us.length ac (ttsC (mixT a b us us.length)) Ma2 -> TMs (mixT a b us us.length) Ms2 -> TM (renT a b (.mk k n s la lc ls aa ac us)) (Ml ++ (Ma2 ++ Ms2)) := by
  intro Ma2 Ms2 h1 h2
  have e : mixT a b us us.length = zjy a b us := by
   rw [zgo]
   unfold mixT
   simp
  rw [e] at h1 h2
  unfold renT TM
  rw [hs']
  refine ⟨hk, hn, hsz', Ml, Ma2, Ms2, rfl, hl, ?_, h2⟩
  have : (zjy a b us).length = us.length := by rw [zgo]; simp
  rw [this]
  exact h1
 refine zaw.seq (zaw.cutX (X := Unit) (fun _ => True) (fun _ => zsb a b (.mk k n s' la lc ls aa ac us) [(26, .one (.v (.slice aa us.length ac))), (27, .one (.v (.int .i64 (us.length : Int)))), (28, .one (.v (.int .i64 0)))] (zan (Ml ++ (Ma ++ Ms)))) (zaf zac [] _ _ _ ?_) (fun _ _ => ?_))
 ·exact ⟨(), trivial, zaa [(0, .blk 0), (1, .blk 1)] rfl rfl rfl rfl (leB rfl) (rs rfl rfl) (rm rfl rfl) ⟨⟨zan.up _, fun w h => h.1⟩, trivial⟩⟩
 have hkl : ∀ {Ma2 Ms2 : List (Nat × Obj)}, zb1 Ma2 = zb1 Ma -> zb1 Ms2 = zb1 Ms -> zb1 (Ml ++ (Ma2 ++ Ms2)) = zb1 (Ml ++ (Ma ++ Ms)) := by
  intro Ma2 Ms2 h1 h2
  rw [zaq, zaq, zaq, zaq, h1, h2]
 have husl : us.length <= 9223372036854775807 := Nat.le_trans ha.le (Nat.le_trans ha.max (by decide))
 refine zaw.block (zaw.loop (Nat × List (Nat × Obj) × List (Nat × Obj)) (rnOk a b us aa ac (zb1 Ma) (zb1 Ms)) (fun q => zsb a b (.mk k n s' la lc ls aa ac us) [(26, .one (.v (.slice aa us.length ac))), (27, .one (.v (.int .i64 (us.length : Int)))), (28, .one (.v (.int .i64 (q.1 : Int))))] (zan (Ml ++ (q.2.1 ++ q.2.2)))) (fun q => us.length - q.1) ⟨(0, Ma, Ms), ⟨Nat.zero_le _, ?_, ?_, rfl, rfl⟩, ⟨fun cx e a w hS => ⟨e, hS⟩⟩⟩ ?_)
 ·show RowO 41 5 aa us.length ac (ttsC (mixT a b us 0)) Ma
  exact ha
 ·show TMs (mixT a b us 0) Ms
  exact hsub
 rintro ⟨i, Ma1, Ms1⟩ ⟨hi, hr1, ht1, hka, hks⟩
 have hi : i <= us.length := hi
 have hr1 : RowO 41 5 aa us.length ac (ttsC (mixT a b us i)) Ma1 := hr1
 have ht1 : TMs (mixT a b us i) Ms1 := ht1
 have hka : zb1 Ma1 = zb1 Ma := hka
 have hks : zb1 Ms1 = zb1 Ms := hks
 obtain ⟨bl, hbl⟩ : ∃ y, decide ((i : Int) < (us.length : Int)) = y := ⟨_, rfl⟩
 refine zaw.cutX (X := Unit) (fun _ => True) (fun _ => zsb a b (.mk k n s' la lc ls aa ac us) [(29, .one (.v (.bool bl))), (26, .one (.v (.slice aa us.length ac))), (27, .one (.v (.int .i64 (us.length : Int)))), (28, .one (.v (.int .i64 (i : Int))))] (zan (Ml ++ (Ma1 ++ Ms1)))) (zaf zac [] _ _ _ ?_) (fun _ _ => ?_)
 ·exact ⟨(), trivial, zaa [(0, .blk 0), (1, .blk 1)] rfl rfl rfl rfl (leB rfl) ⟨⟨_, rfl, by rw [hbl]⟩, ⟨_, rfl, rfl⟩, ⟨_, rfl, rfl⟩, ⟨_, rfl, rfl⟩, ⟨_, rfl, rfl⟩, ⟨_, rfl, rfl⟩, ⟨_, rfl, rfl⟩, ⟨_, rfl, rfl⟩, trivial⟩ ⟨⟨_, rfl, rfl⟩, ⟨_, rfl, rfl⟩, trivial⟩ ⟨⟨zan.up _, fun w h => h.1⟩, trivial⟩⟩
 cases bl with
 | false =>
  have he : i = us.length := by
   have := of_decide_eq_false hbl
   omega
  subst he
  refine zaw.seq (zaw.of (zaf zac [] _ _ _ ?_))
  refine zaw.of (zaf zac [] _ _ _ ?_)
  exact ⟨_, (renT a b (.mk k n s la lc ls aa ac us)).val, Ml ++ (Ma1 ++ Ms1), rfl, fun e => (by
   unfold renT
   rw [hs', zgo]
   show Value.agg (reals e ((TT.mk k n s' la lc ls aa ac us).cells.map SA.v)).toArray = _
   rw [zbd]
   simp [TT.val, TT.cells]), ⟨⟨rfl, hT _ _ hr1 ht1⟩, hkl hka hks⟩, fun w h => h.1⟩
 | true =>
 have hlt : i < us.length := by
  have := of_decide_eq_true hbl
  omega
 obtain ⟨u, hu⟩ : ∃ u, us[i]? = some u := ⟨_, List.getElem?_eq_getElem hlt⟩
 have hmem := List.mem_of_getElem? hu
 have hmi : (mixT a b us i)[i]? = some u := by
  rw [zod hu, List.getElem?_append_right (by simp; omega)]
  simp [Nat.min_eq_left hi]
 have ht0 := ht1
 rw [zod hu] at ht1
 obtain ⟨D, Ms2, rfl, htD, ht2⟩ := TMs.split ht1
 unfold TMs at ht2
 obtain ⟨Mu, R, rfl, htu, htR⟩ := ht2
 rcases hr1 with ⟨_, h0, _⟩ | ⟨g, cur, rfl, rfl, hac, hacm, hcs, hct⟩
 ·omega
 have hndA : (zb1 (Ml ++ ([(g, Obj.cells cur 41 (0, 0))] ++ (D ++ (Mu ++ R))))).Nodup := by
  rw [hkl hka hks]
  exact hnd
 have hGA : ∀ (cx : Cx), (∀ g, InK (Ml ++ (Ma ++ Ms)) g -> cx.G g) -> ∀ q, InK (Ml ++ ([(g, Obj.cells cur 41 (0, 0))] ++ (D ++ (Mu ++ R)))) q -> cx.G q := by
  intro cx hc q hq
  refine hc q ?_
  unfold InK at *
  rw [<- hkl hka hks]
  exact hq
 refine zaw.seq (zaw.of (zaf zac [] _ _ _ ?_))
 refine zaw.seq (zaw.block ?_)
 refine zaw.cutX (X := Unit) (fun _ => True) (fun _ => { s := [(7, .one (.v (.int .i64 (i : Int)))), (8, .one (.p 2 0)), (26, .one (.v (.slice (some ⟨g, 0, none⟩) us.length ac))), (27, .one (.v (.int .i64 (us.length : Int)))), (28, .one (.v (.int .i64 (i : Int)))), (1, .one (.v (.string a))), (2, .one (.v (.string b))), (3, .one (.p 0 0)), (6, .one (.p 1 0))], m := [(0, .cells 41 ((TT.mk k n s' la lc ls (some ⟨g, 0, none⟩) ac us).cells.map SA.v)), (1, .cells 41 zap), (2, .cells 41 (u.cells.map SA.v))], k := 3, f := [zan (Ml ++ ([(g, Obj.cells cur 41 (0, 0))] ++ (D ++ (Mu ++ R))))] }) ?_ (fun _ _ => ?_)
 ·obtain ⟨uk, un, unm, ula, ulc, uls, uaa, uac, uus⟩ := u
  refine zaf zac [] _ _ _ ?_
  refine ⟨{ n := i }, ⟨rfl, hlt, fun w h => rfl⟩, ?_⟩
  refine ⟨{ cs := (TT.mk uk un unm ula ulc uls uaa uac uus).cells }, ⟨TT.cells_one (TT.mk uk un unm ula ulc uls uaa uac uus), rfl, fun w h => ?_⟩, ?_⟩
  ·obtain ⟨hMl, hMr⟩ := zan.app.1 h.1
   obtain ⟨hMa, hMs⟩ := zan.app.1 hMr
   have hrow : RowO 41 5 (some ⟨g, 0, none⟩) us.length ac (ttsC (mixT a b us i)) [(g, .cells cur 41 (0, 0))] := .inr ⟨g, cur, rfl, rfl, hac, hacm, hcs, hct⟩
   have htts := zez (w := w) (B := some ⟨g, 0, none⟩) (mixT a b us i) 0 (fun j v hj => by
    rw [Nat.zero_mul, Nat.zero_add]
    exact hrow.slat hMa j v hj) (TMs.inW _ _ ht0 hMs)
   obtain ⟨⟨a0, ha0, hc0⟩, _⟩ := TTs.get htts hmi
   cases ha0
   rw [Nat.zero_add] at hc0
   exact ⟨_, rfl, hc0⟩
  exact ⟨(), trivial, zaa [(0, .blk 0), (1, .blk 1), (2, .blk 2)] rfl rfl rfl rfl (leB rfl) (rs rfl rfl) (rm rfl rfl) ⟨⟨zan.up _, fun w h => h.1⟩, trivial⟩⟩
 have hih := ih _ (zd5 hmem) u rfl Mu htu (by
  rw [zaq, zaq, zaq, zaq, List.nodup_append] at hndA
  have h2 := hndA.2.1
  rw [List.nodup_append] at h2
  have h3 := h2.2.1
  rw [List.nodup_append] at h3
  have h4 := h3.2.1
  rw [List.nodup_append] at h4
  exact h4.1)
 obtain ⟨uk, un, unm, ula, ulc, uls, uaa, uac, uus⟩ := u
 refine zaw.draw zac ⟨[0, 1, 0, 0, 0, 0, 56, 127, 255], [6, 7, 8], [(0, { dst := some 33, v := .one (.p 0 4), p := none, f := none }), (1, { dst := some 34, v := .one (.v (.slice (some ⟨g, 0, none⟩) us.length ac)), p := none, f := none }), (2, { dst := some 35, v := .one (.v (.int .i64 (i : Int))), p := none, f := none }), (3, { dst := some 36, v := ttA (TT.mk uk un unm ula ulc uls uaa uac uus), p := none, f := none }), (4, { dst := some 37, v := .one (.v (.string a)), p := none, f := none }), (5, { dst := some 38, v := .one (.v (.string b)), p := none, f := none })], by kernel_rfl, rfl, by kernel_rfl, by kernel_rfl, rfl, rfl, rfl, rfl, ?_⟩
 refine zag ({ s := [(7, .one (.v (.int .i64 (i : Int)))), (8, .one (.p 2 0)), (26, .one (.v (.slice (some ⟨g, 0, none⟩) us.length ac))), (27, .one (.v (.int .i64 (us.length : Int)))), (28, .one (.v (.int .i64 (i : Int)))), (1, .one (.v (.string a))), (2, .one (.v (.string b))), (3, .one (.p 0 0)), (6, .one (.p 1 0))], m := [(0, .cells 41 ((TT.mk k n s' la lc ls (some ⟨g, 0, none⟩) ac us).cells.map SA.v)), (1, .cells 41 zap), (2, .cells 41 ((TT.mk uk un unm ula ulc uls uaa uac uus).cells.map SA.v))], k := 3, f := [zan (Ml ++ ([(g, Obj.cells cur 41 (0, 0))] ++ (D ++ (Mu ++ R))))] }) [6] rfl (by kernel_rfl) (by kernel_rfl) ⟨⟨rfl, rfl⟩, ⟨rfl, rfl⟩, ⟨rfl, rfl⟩, ⟨rfl, rfl⟩, ⟨rfl, rfl⟩, ⟨rfl, rfl⟩, trivial⟩ ⟨?_, trivial⟩
 refine ⟨_, rfl, rfl, ?_⟩
 refine OpX.callM zac (args := [ttA (TT.mk uk un unm ula ulc uls uaa uac uus), .one (.v (.string a)), .one (.v (.string b))]) (A := Ml ++ ([(g, Obj.cells cur 41 (0, 0))] ++ D)) (M := Mu) (B := R) rfl (fun e => rfl) zqa (fun w h => by have h := h.1; simpa only [List.append_assoc] using h) (fun cx hc q hq => .inr (hGA cx hc q ?_)) (by simpa only [List.append_assoc] using hndA) hih (fun r M' hR hkM => ?_)
 ·unfold InK at *
  rw [zaq, zaq, zaq, zaq]
  exact List.mem_append_right _ (List.mem_append_right _ (List.mem_append_right _ (List.mem_append_left _ hq)))
 obtain ⟨rfl, hTM⟩ := hR
 have hnd2 : (zb1 (Ml ++ ([(g, Obj.cells cur 41 (0, 0))] ++ (D ++ (M' ++ R))))).Nodup := by
  rw [zaq, zaq, zaq, zaq] at hndA ⊢
  rw [hkM]
  exact hndA
 refine zag ({ s := [(39, .one (.v (renT a b (TT.mk uk un unm ula ulc uls uaa uac uus)).val)), (7, .one (.v (.int .i64 (i : Int)))), (8, .one (.p 2 0)), (26, .one (.v (.slice (some ⟨g, 0, none⟩) us.length ac))), (27, .one (.v (.int .i64 (us.length : Int)))), (28, .one (.v (.int .i64 (i : Int)))), (1, .one (.v (.string a))), (2, .one (.v (.string b))), (3, .one (.p 0 0)), (6, .one (.p 1 0))], m := [(0, .cells 41 ((TT.mk k n s' la lc ls (some ⟨g, 0, none⟩) ac us).cells.map SA.v)), (1, .cells 41 zap), (2, .cells 41 ((TT.mk uk un unm ula ulc uls uaa uac uus).cells.map SA.v))], k := 3, f := [zan ((Ml ++ ([(g, Obj.cells cur 41 (0, 0))] ++ D)) ++ (M' ++ R))] }) [7] rfl (by kernel_rfl) (by kernel_rfl) ⟨⟨rfl, rfl⟩, ⟨rfl, rfl⟩, ⟨rfl, rfl⟩, ⟨rfl, trivial⟩, ⟨rfl, trivial⟩, ⟨rfl, trivial⟩, trivial⟩ ⟨?_, trivial⟩
 refine ⟨_, rfl, rfl, ?_⟩
 refine OpX.of zac _ rfl ⟨{ n := i }, ⟨rfl, hlt, fun w h => rfl⟩, ?_⟩
 refine zag ({ s := [(40, .one (.v (.pointer (some ((⟨g, 0, none⟩ : Addr).add (i * 5)))))), (39, .one (.v (renT a b (TT.mk uk un unm ula ulc uls uaa uac uus)).val)), (7, .one (.v (.int .i64 (i : Int)))), (8, .one (.p 2 0)), (26, .one (.v (.slice (some ⟨g, 0, none⟩) us.length ac))), (27, .one (.v (.int .i64 (us.length : Int)))), (28, .one (.v (.int .i64 (i : Int)))), (1, .one (.v (.string a))), (2, .one (.v (.string b))), (3, .one (.p 0 0)), (6, .one (.p 1 0))], m := [(0, .cells 41 ((TT.mk k n s' la lc ls (some ⟨g, 0, none⟩) ac us).cells.map SA.v)), (1, .cells 41 zap), (2, .cells 41 ((TT.mk uk un unm ula ulc uls uaa uac uus).cells.map SA.v))], k := 3, f := [zan ((Ml ++ ([(g, Obj.cells cur 41 (0, 0))] ++ D)) ++ (M' ++ R))] }) [8] rfl (by kernel_rfl) (by kernel_rfl) ⟨⟨rfl, trivial⟩, ⟨rfl, trivial⟩, ⟨rfl, trivial⟩, ⟨rfl, trivial⟩, ⟨rfl, trivial⟩, ⟨rfl, trivial⟩, trivial⟩ ⟨?_, trivial⟩
 refine ⟨_, rfl, rfl, ?_⟩
 refine OpX.storeM zac rfl rfl (g := g) (off := 0 + i * 5) (cur := cur) (E := 41) (us := (renT a b (TT.mk uk un unm ula ulc uls uaa uac uus)).cells) (v := .one (.v (renT a b (TT.mk uk un unm ula ulc uls uaa uac uus)).val)) ?_ rfl (fun e => rfl) (TT.cells_len _) (TT.cells_one _) (by rw [TT.cells_len, hcs]; omega) (A := Ml) (B := D ++ (M' ++ R)) (fun w h => by have h := h.1; simpa only [List.append_assoc] using h) (fun cx hc => .inr (hGA cx hc g ?_)) hnd2 ?_
 ·show some (SV.one (.v (.pointer (some ((⟨g, 0, none⟩ : Addr).add (i * 5)))))) = _
  rw [zbl]
 ·unfold InK
  rw [zaq, zaq]
  exact List.mem_append_right _ (List.mem_append_left _ List.mem_cons_self)
 refine zat _ rfl (by kernel_rfl) ⟨⟨rfl, trivial⟩, ⟨rfl, trivial⟩, ⟨rfl, trivial⟩, ⟨rfl, trivial⟩, ⟨rfl, trivial⟩, ⟨rfl, trivial⟩, trivial⟩ ?_
 refine zaw.of (zaf zac [] _ _ _ ?_)
 refine ⟨(i + 1, [(g, Obj.cells (cur.toList.take (0 + i * 5) ++ ((renT a b (TT.mk uk un unm ula ulc uls uaa uac uus)).cells ++ cur.toList.drop (0 + i * 5 + (renT a b (TT.mk uk un unm ula ulc uls uaa uac uus)).cells.length))).toArray 41 (0, 0))], D ++ (M' ++ R)), ⟨hlt, .inr ⟨g, _, rfl, rfl, hac, hacm, ?_, ?_⟩, ?_, hka, ?_⟩, by show us.length - (i + 1) < us.length - i; omega, ?_⟩
 ·simp only [List.size_toArray, List.length_append, List.length_take, List.length_drop, TT.cells_len, Array.length_toList, hcs]
  omega
 ·have h2 := zwa (x := renT a b (TT.mk uk un unm ula ulc uls uaa uac uus)) (i := i) (n := us.length) (by rw [hct, zod hu]) (by simp; omega) (by simp; omega) (by simp only [Array.length_toList, hcs]; omega)
  rw [zmi hu, <- h2]
  simp only [Nat.zero_add]
 ·show TMs (mixT a b us (i + 1)) (D ++ (M' ++ R))
  rw [zmi hu]
  refine TMs.join htD ?_
  unfold TMs
  exact ⟨M', R, rfl, hTM, htR⟩
 ·show zb1 (D ++ (M' ++ R)) = _
  rw [<- hks, zaq, zaq, zaq, zaq, hkM]
 exact zaa [(0, .blk 0), (1, .blk 1)] rfl rfl rfl rfl (leB rfl) ⟨⟨_, rfl, rfl⟩, ⟨_, rfl, rfl⟩, ⟨_, rfl, oneI (za9 (by omega) (by omega))⟩, ⟨_, rfl, rfl⟩, ⟨_, rfl, rfl⟩, ⟨_, rfl, rfl⟩, ⟨_, rfl, rfl⟩, trivial⟩ ⟨⟨_, rfl, rfl⟩, ⟨_, rfl, rfl⟩, trivial⟩ ⟨⟨zan.up _, fun w h => h.1⟩, trivial⟩
end Go.Proofs.YtmkpiekbpakigaaDoor
end
section
set_option linter.unusedVariables false
set_option linter.unusedSimpArgs false
namespace Go.Proofs.YtmkpiekbpakigaaDoor
open Go.RowKit Go.Proofs.Base Go.Proofs.Mono Go.Proofs.Sym
def zjx (a b : ByteArray) (t : Tm) : Option Tm := zrl (renM a b t) (zbe t && zcd b)
set_option maxHeartbeats 4000000 in
theorem zix (t : TT) (a b : ByteArray) (hB : tmB t.tm) (hb : b.size <= maxLen) : zav Tryd.prog 41 [ttA t, .one (.v (.string a)), .one (.v (.string b))] [] 0 (fun w => ML w /\ TTIn w t) (ze5 (some (zjx a b t.tm))) (zb7 (some (zjx a b t.tm))) := by
 have hr := zb4 t
 have hw := zoe b
 have hspec := show zjx a b t.tm = zrl (renM a b t.tm) (zbe t.tm && zcd b) from rfl
 have hrm : ∀ x : TT, x.tm = t.tm -> (renT a b x).tm = renM a b t.tm := fun x hx => by rw [ztb, hx]
 obtain ⟨br, hbr⟩ : ∃ y, zbe t.tm = y := ⟨_, rfl⟩
 rw [show zbm 4 1099511627776 t.tm = br from hbr] at hr
 obtain ⟨bw, hbw⟩ : ∃ y, zcd b = y := ⟨_, rfl⟩
 rw [hbw] at hw
 rw [hbr, hbw] at hspec
 obtain ⟨R, hR⟩ : ∃ R, zjx a b t.tm = R := ⟨_, rfl⟩
 rw [hR] at hspec ⊢
 clear hR hbr hbw
 obtain ⟨rt, hrt⟩ : ∃ y, renM a b t.tm = y := ⟨_, rfl⟩
 rw [hrt] at hspec hrm
 clear hrt
 obtain ⟨k, n, s, la, lc, ls, aa, ac, us⟩ := t
 refine zas zac 22 [.cell 6 41, .tmp 7] Tryd.func41 rfl rfl (by kernel_rfl) rfl _ (leB rfl) (ML.up.and (TTIn.upS _)) ?_
 cases br with
 | false =>
  have e : R = none := hspec
  subst e
  refine zaf zac [] _ _ _ ?_
  refine zae hr (fun _ => rfl) (fun w h => h.1) ?_
  rintro r rfl
  exact ⟨_, rfl, TT.mk k n s la lc ls aa ac us, trivial, rfl, zaa [] rfl rfl rfl rfl (leB rfl) (rs rfl rfl) trivial ⟨⟨Up.true, fun _ _ => trivial⟩, trivial⟩⟩
 | true =>
 cases bw with
 | false =>
  have e : R = none := hspec
  subst e
  refine zaf zac [] _ _ _ ?_
  refine zae hr (fun _ => rfl) (fun w h => h.1) ?_
  rintro r rfl
  refine zae hw (fun _ => rfl) (fun w h => h.2.1.1) ?_
  rintro r rfl
  exact ⟨_, rfl, TT.mk k n s la lc ls aa ac us, trivial, rfl, zaa [] rfl rfl rfl rfl (leB rfl) (rs rfl rfl) trivial ⟨⟨Up.true, fun _ _ => trivial⟩, trivial⟩⟩
 | true =>
 have e : R = some rt := hspec
 subst e
 refine zaf zac [3] _ _ _ ?_
 refine zae hr (fun _ => rfl) (fun w h => h.1) ?_
 rintro r rfl
 refine zae hw (fun _ => rfl) (fun w h => h.2.1.1) ?_
 rintro r rfl
 refine zai.ent (st' := { s := [(1, .one (.v (.string a))), (2, .one (.v (.string b))), (3, .one (.p 0 0)), (6, .one (.p 1 0))], m := [(0, .cells 41 ((TT.mk k n s la lc ls aa ac us).cells.map SA.v)), (1, .cells 41 zap)], k := 2, f := [fun w => TTIn w (TT.mk k n s la lc ls aa ac us)] }) (zaa [(0, .blk 0), (1, .blk 1)] rfl rfl rfl rfl (leB rfl) (rs rfl rfl) (rm rfl rfl) ⟨⟨TTIn.upS _, fun w h => h.2.2.1.2⟩, trivial⟩) ?_
 refine zai.at fun cx0 => zaw.seq (zaw.parts ?_)
 refine zcq.op rfl (OpX.of zac _ rfl ?_)
 refine zcq.op rfl (OpX.clone (t := TT.mk k n s la lc ls aa ac us) rfl hB (fun w h => h.1) (fun x M hx1 hx2 hx3 hx4 => ?_))
 refine zcq.op rfl (OpX.of zac _ rfl ?_)
 refine zcq.op rfl (OpX.of zac _ rfl ?_)
 have hxt := hrm x hx1
 have hcall := zlg a b hb x M hx2 hx3
 unfold renR at hcall
 obtain ⟨y, hy⟩ : ∃ y, renT a b x = y := ⟨_, rfl⟩
 rw [hy] at hcall hxt
 clear hy hrm
 refine zcq.op rfl (OpX.callM zac (args := [ttA x, .one (.v (.string a)), .one (.v (.string b))]) (A := []) (M := M) (B := []) rfl (fun e => ?_) zqa (fun w h => by simpa using h.1) (fun cx hc q hq => ?_) (by simpa using hx3) hcall (fun r M' hR hkM => ?_))
 ·show [(ttA x).real e, _, _] = _
  rw [zfy]
  rfl
 ·rw [hc]
  exact .inl (hx4 q hq)
 obtain ⟨rfl, hTM⟩ := hR
 obtain ⟨yk, yn, ynm, yla, ylc, yls, yaa, yac, yus⟩ := y
 refine zcq.of (zbo.part zac 2 ?_)
 refine zbo.done (zaw.of (zaf zac [] _ _ _ ?_))
 refine ⟨_, rfl, TT.mk yk yn ynm yla ylc yls yaa yac yus, hxt, rfl, ?_⟩
 exact zaa [] rfl rfl rfl rfl (leB rfl) (rs rfl rfl) trivial ⟨⟨TTIn.upS _, fun w h => TM.inW _ M' hTM (by simpa using h.1)⟩, trivial⟩
end Go.Proofs.YtmkpiekbpakigaaDoor
end
