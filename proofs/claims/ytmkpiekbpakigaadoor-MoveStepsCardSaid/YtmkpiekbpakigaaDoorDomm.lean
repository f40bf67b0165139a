/- What the claim needs of SymW, Al2, Pl2, Cb0, Al3, in one text. -/
import Derived.Test.YtmkpiekbpakigaaDoorDomg
import Derived.Test.YtmkpiekbpakigaaDoorDomi
import Derived.Test.YtmkpiekbpakigaaDoorDoml
section
set_option linter.unusedVariables false
set_option linter.unusedSimpArgs false
namespace Go.Proofs.Sym
open Go.RowKit Go.Proofs.Base Go.Proofs.Mono
def zlg (o : Oper) : Bool := match o.guard with
 | some _ => false
 | none => match o.op with
  | .move _ => true
  | .assign _ => true
  | .extract _ _ => true
  | _ => false
theorem zh6 {o : Oper} (h : zlg o = true) : o.guard = none := by
 unfold zlg at h
 cases hg : o.guard with
 | none => rfl
 | some g => rw [hg] at h; cases h
theorem zup {P : Program} {T : Tab} {cx : Cx} {e : Env} {st : St} {a : Act} {w : World} {o : Oper} {v : SV} (hp : zlg o = true) (hS : Sat cx e st a w) (hs : sig T st o = .det v) : ∀ w', (execOp a.eval o).run P w' = .ok (.value (v.real e)) w' := by
 intro w'
 unfold zlg at hp
 rw [zh6 (o := o) (by unfold zlg; exact hp)] at hp
 unfold sig at hs
 cases ho : o.op <;> rw [ho] at hp hs <;> simp only at hp hs <;> first | cases hp | skip
 case move x =>
  unfold zdz at hs
  split at hs
  ·rename_i u hu
   cases hs
   simp [execOp, ho, (hS.ev hu).2]
  ·cases hs
 case assign x =>
  unfold zdz at hs
  split at hs
  ·rename_i u hu
   cases hs
   simp [execOp, ho, (hS.ev hu).2]
  ·cases hs
 case extract x j =>
  have h1 := zgf (P := P) hS ho
  rw [hs] at h1
  have h2 := h1.2
  simp only [execOp, ho, Sem.run_bind] at h2 ⊢
  cases hx : a.eval x with
  | tuple ts =>
   rw [hx] at h2
   cases hj : ts[j]? with
   | none => simp [Instr.extract, hj] at h2
   | some u =>
    simp [Instr.extract, hj] at h2 ⊢
    exact h2
  | _ =>
   rw [hx] at h2
   simp [Instr.extract] at h2
def zjr (ops : Array Oper) (tb C : List Nat) (ds : List (Nat × Dl)) (L : List Nat) (i : Nat) : Bool :=
 hasN i C && !hasN i L && C.all (fun j => !zbe tb i j || hasN j L) && (zd0 ds).all (fun j => !zbe tb i j || L.any fun c => zbe tb c j) &&
 match ops[i]? with
 | none => false
 | some o => (o.after.toList.all fun e => !Region.binds .any e || zbe tb i e.on) && (List.range ops.size).all fun j => match ops[j]? with
  | none => true
  | some oj => j == i || hasN j L || o.apart ops oj || oj.after.any fun e => Region.binds .any e && e.on == i
theorem zrj {ops : Array Oper} {tb C : List Nat} {ds : List (Nat × Dl)} {L : List Nat} {i : Nat} {o : Oper} (h : zjr ops tb C ds L i = true) (ho : ops[i]? = some o) :
  i ∈ C /\ hasN i L = false /\ (∀ j ∈ C, zbe tb i j = true -> hasN j L = true) /\ (∀ j ∈ zd0 ds, zbe tb i j = true -> ∃ c ∈ L, zbe tb c j = true) /\ (∀ e ∈ o.after, Region.binds .any e = true -> zbe tb i e.on = true) /\
  ∀ j oj, ops[j]? = some oj -> j ≠ i -> j ∉ L -> (∀ e ∈ oj.after, Region.binds .any e = true -> e.on ≠ i) -> o.apart ops oj = true := by
 unfold zjr at h
 rw [ho] at h
 simp only [Bool.and_eq_true, Bool.not_eq_true'] at h
 obtain ⟨⟨⟨⟨h1, h2⟩, h3⟩, h4⟩, h6, h5⟩ := h
 refine ⟨za6.1 h1, h2, fun j hj hb => ?_, fun j hj hb => ?_, fun e he hb => ?_, fun j oj hj hne hL hnb => ?_⟩
 ·have := List.all_eq_true.1 h3 j hj
  rw [hb] at this
  simpa using this
 ·have := List.all_eq_true.1 h4 j hj
  rw [hb] at this
  simpa using this
 ·have := List.all_eq_true.1 h6 e (by simpa using he)
  rw [hb] at this
  simpa using this
 ·have := List.all_eq_true.1 h5 j (List.mem_range.2 (Array.getElem?_eq_some_iff.1 hj).1)
  rw [hj] at this
  simp only [Bool.or_eq_true, beq_iff_eq] at this
  rcases this with ((h | h) | h) | h
  ·exact absurd h hne
  ·exact absurd (za6.1 h) hL
  ·exact h
  ·rw [Array.any_eq_true'] at h
   obtain ⟨e, he, h⟩ := h
   rw [Bool.and_eq_true, beq_iff_eq] at h
   exact absurd h.2 (hnb e he h.1)
def cgoY (P : Program) (T : Tab) (N : Nat) (Cc : Cx -> Prop) (ops : Array Oper) (tb C : List Nat) (ds : List (Nat × Dl)) (K : St -> Prop) : Nat -> List Nat -> St -> Prop
 | n, L, st => ziv T N ops tb ds L st ds /\ match C.all (fun i => hasN i L) with
  | true => K { st with s := selS N ds ++ st.s }
  | false => match n with
   | 0 => False
   | n + 1 => (zjk (fun i => match ops[i]? with
    | none => False
    | some o => match o.guard with
     | some _ => False
     | none => OpX P N Cc o (rst N ops tb ds i o st) (fun v st' => cgoY P T N Cc ops tb C ds K n (i :: L) (({ st' with s := st.s } : St).put N o.dst v))) (zf2 C L tb)) \/ ∃ (i : Nat) (v : SV) (o : Oper), zjr ops tb C ds L i = true /\ ops[i]? = some o /\ zlg o = true /\ sig T (rst N ops tb ds i o st) o = .det v /\ cgoY P T N Cc ops tb C ds K n (i :: L) (st.put N o.dst v)
structure zri (P : Program) (T : Tab) (N : Nat) (Cc : Cx -> Prop) (ops : Array Oper) (K : St -> Prop) (st : St) : Prop where
 ex : ∃ (tb C : List Nat) (ds : List (Nat × Dl)), (Region.before ops).toList = tb /\ tb.length = ops.size /\ zfp ops = true /\ zf8 tb = true /\ zi8 ops.size C (zd0 ds) = true /\ zcp (zd0 ds) = true /\ zbx ops.size C = true /\ ((zd0 ds).all fun k => !hasN k C) = true /\
  cgoY P T N Cc ops tb C ds K C.length [] { st with s := zix ds st.s }
section
variable {P : Program} {T : Tab} {cx : Cx} {Cc : Cx -> Prop} {ops : Array Oper} {tb C : List Nat} {ds : List (Nat × Dl)} {K : Exit -> St -> Prop}
theorem zqh (hKp : ∀ ch st, ¬ K (.panic ch) st) (hC : Cc cx) (hT : T.Ok P) (Tb : zf0 ops) (hbit : ∀ k j, bef ops k j = zbe tb k j) (hcov : zi8 ops.size C (zd0 ds) = true) (hkeys : zcp (zd0 ds) = true) (hCb : ∀ i ∈ C, i < ops.size) (hdis : ∀ k d, (k, d) ∈ ds -> k ∉ C) : ∀ (fuel : Nat) (listed : Array Bool) (n : Nat) (L : List Nat) (e : Env) (st : St) (a : Act) (w : World),
  listed.size = ops.size -> listed.toList.count false <= fuel -> (∀ k, k < ops.size -> listed.getD k false = true -> ∀ j, j < ops.size -> bef ops k j = true -> listed.getD j false = true) ->
  (∀ i, i ∈ C -> (hasN i L = true ↔ listed.getD i false = true)) -> (∀ i, i ∈ L -> listed.getD i false = true /\ i < ops.size) ->
  cx.n0 = st.b -> a.tmps.size = cx.n -> a.defers = cx.d -> Mem cx e st.m st.k st.f w ->
  (∀ i v, get i st.s = some v -> v.lt st.k /\ a.tmps[i]? = some (v.real e) /\ ∀ j d, (j, d) ∈ ds -> d.dst ≠ some i) ->
  (∀ k d, (k, d) ∈ ds -> listed.getD k false = true -> d.v.lt st.k /\ ∀ t, d.dst = some t -> t < cx.n -> a.tmps[t]? = some (d.v.real e)) ->
  cgoY P T cx.n Cc ops tb C ds (K .normal) n L st -> wpAny P .any ops (Post cx K) fuel listed a w := by
 intro fuel
 have main : ∀ (listed : Array Bool) (n : Nat) (L : List Nat) (e : Env) (st : St) (a : Act) (w : World), (∀ k, k < ops.size -> listed.getD k false = true) ->
   (∀ i, i ∈ C -> (hasN i L = true ↔ listed.getD i false = true)) -> cx.n0 = st.b -> a.tmps.size = cx.n -> a.defers = cx.d -> Mem cx e st.m st.k st.f w ->
   (∀ i v, get i st.s = some v -> v.lt st.k /\ a.tmps[i]? = some (v.real e) /\ ∀ j d, (j, d) ∈ ds -> d.dst ≠ some i) ->
   (∀ k d, (k, d) ∈ ds -> listed.getD k false = true -> d.v.lt st.k /\ ∀ t, d.dst = some t -> t < cx.n -> a.tmps[t]? = some (d.v.real e)) ->
   cgoY P T cx.n Cc ops tb C ds (K .normal) n L st -> Post cx K .normal a w := by
  intro listed n L e st a w hall hLC hb has had hm hsl hds hvc
  unfold cgoY at hvc
  obtain ⟨hstab, hvc⟩ := hvc
  have hCall : C.all (fun i => hasN i L) = true := List.all_eq_true.2 fun i hi => (hLC i hi).2 (hall i (hCb i hi))
  rw [hCall] at hvc
  refine ⟨e, _, hvc, hb, has, had, fun i v hi => ?_, hm⟩
  have hi : get i (selS cx.n ds ++ st.s) = some v := hi
  rw [zbp] at hi
  split at hi
  ·rename_i v' hv'
   cases hi
   obtain ⟨j, d, h1, h2, h3, rfl⟩ := zbs hv'
   obtain ⟨o, ho, _⟩ := zc9 hstab h1
   obtain ⟨h4, h5⟩ := hds j d h1 (hall j (Array.getElem?_eq_some_iff.1 ho).1)
   exact ⟨h4, h5 i h2 h3⟩
  ·obtain ⟨h4, h5, _⟩ := hsl i v hi
   exact ⟨h4, h5⟩
 induction fuel with
 | zero =>
  intro listed n L e st a w hsz hcnt hcl hLC hL hb has had hm hsl hds hvc
  have hall : ∀ k, k < ops.size -> listed.getD k false = true := fun k hk => by
   cases hu : listed.getD k false with
   | true => rfl
   | false =>
    exfalso
    have : false ∈ listed.toList := by
     have h2 : listed[k]'(by omega) = false := by simpa [Array.getD_eq_getD_getElem?, hsz, hk] using hu
     rw [<- h2]
     exact Array.getElem_mem_toList (h := by omega)
    have := List.count_pos_iff.2 this
    omega
  refine ⟨?_, main listed n L e st a w hall hLC hb has had hm hsl hds hvc⟩
  refine List.eq_nil_iff_forall_not_mem.2 (fun i hi => ?_)
  obtain ⟨h1, o, ho, _⟩ := mem_ready.1 hi
  have hlt : i < ops.size := (Array.getElem?_eq_some_iff.1 ho).1
  have h3 : listed.getD i false = false := by simpa [Array.getD_eq_getD_getElem?, hsz, hlt] using h1
  rw [hall i hlt] at h3
  cases h3
 | succ fuel ih =>
  intro listed n L e st a w hsz hcnt hcl hLC hL hb has had hm hsl hds hvc
  by_cases hfst : ∃ (n' i : Nat) (v : SV) (o : Oper), n = n' + 1 /\ zjr ops tb C ds L i = true /\ ops[i]? = some o /\ zlg o = true /\ sig T (rst cx.n ops tb ds i o st) o = .det v /\ cgoY P T cx.n Cc ops tb C ds (K .normal) n' (i :: L) (st.put cx.n o.dst v)
  ·obtain ⟨n', i, v, o, rfl, hfb, ho, hpu, hsg, hnext⟩ := hfst
   have hlt : i < ops.size := (Array.getElem?_eq_some_iff.1 ho).1
   obtain ⟨hiC, hiL, hpc, hpd, hpe, hap⟩ := zrj hfb ho
   have hun : listed.getD i false = false := by
    cases hq : listed.getD i false with
    | false => rfl
    | true =>
     have := (hLC i hiC).2 hq
     rw [hiL] at this
     cases this
   have hprd : ∀ j, j < ops.size -> bef ops i j = true -> listed.getD j false = true := by
    intro j hj hbj
    have hbj2 := hbj
    rw [hbit] at hbj
    by_cases hjC : j ∈ C
    ·exact (hLC j hjC).1 (hpc j hjC hbj)
    ·have hcv := List.all_eq_true.1 hcov j (List.mem_range.2 hj)
     rw [Bool.or_eq_true] at hcv
     rcases hcv with hcv | hcv
     ·exact absurd (za6.1 hcv) hjC
     ·obtain ⟨c, hc, hbc⟩ := hpd j (za6.1 hcv) hbj
      obtain ⟨h2, h3⟩ := hL c hc
      exact hcl c h3 h2 j hj (by rw [hbit]; exact hbc)
   have hdsz : ∀ {j d}, (j, d) ∈ ds -> j < ops.size /\ d.dst = zbj ops j := fun hj => by
    have hvc1 := hvc
    unfold cgoY at hvc1
    obtain ⟨oj, hoj, _, hd, _⟩ := zc9 hvc1.1 hj
    exact ⟨(Array.getElem?_eq_some_iff.1 hoj).1, by rw [hd]; simp [zbj, hoj]⟩
   have hsat : Sat cx e (rst cx.n ops tb ds i o st) a w := by
    refine ⟨hb, has, had, fun t v ht => ?_, hm⟩
    obtain ⟨_, ht⟩ := zda ht
    rw [zbp] at ht
    split at ht
    ·rename_i v' hv'
     cases ht
     obtain ⟨j, d, h1, h2, h3, rfl⟩ := zbs hv'
     obtain ⟨h4, h5⟩ := zdk.1 h1
     obtain ⟨h6, h7⟩ := hds j d h4 (hprd j (hdsz h4).1 (by rw [hbit]; exact h5))
     exact ⟨h6, h7 t h2 h3⟩
    ·obtain ⟨h4, h5, _⟩ := hsl t v ht
     exact ⟨h4, h5⟩
   have hok := zd9 (o := o) hT hsat
   rw [hsg] at hok
   obtain ⟨hvl, _⟩ := hok
   have hrun := zup (P := P) (T := T) hpu hsat hsg
   have hdst : zbj ops i = o.dst := by simp [zbj, ho]
   have hik : ¬ ∃ d, (i, d) ∈ ds := fun ⟨d, hd⟩ => hdis _ _ hd hiC
   have hset : ∀ j d, (listed.setIfInBounds i true).getD j d = if j = i then true else listed.getD j d := by
    intro j d
    by_cases h : j = i
    ·subst h
     rw [if_pos rfl]
     simp [Array.getD_eq_getD_getElem?, hsz, hlt]
    ·rw [if_neg h, getD_set_ne d (Ne.symm h)]
   have hlisted : listed.getD i true = false := by simpa [Array.getD_eq_getD_getElem?, hsz, hlt] using hun
   have hrd : i ∈ Region.ready .any ops listed := mem_ready.2 ⟨hlisted, o, ho, fun ed hed hbd => hprd ed.on (Nat.lt_trans (Tb.back ho ed hed hbd) hlt) (by rw [hbit]; exact hpe ed hed hbd)⟩
   refine wpAny_first ho (fun j oj cs bb hj => Region.noSelect_spec Tb.sel j oj cs bb hj) (fun c a w hq => ?_) fuel listed a w (fun j oj hj hji hjl hnb => ?_) hrd (.inl ⟨za0 (zh6 hpu) _, hrun⟩) ?_
   ·obtain ⟨e', st', hK, _⟩ := hq
    exact absurd hK (hKp _ _)
   ·refine hap j oj hj hji (fun hjL => ?_) hnb
    have := (hL j hjL).1
    have hjs := (hL j hjL).2
    have h4 : listed.getD j false = false := by simpa [Array.getD_eq_getD_getElem?, hsz, hjs] using hjl
    rw [h4] at this
    cases this
   obtain ⟨p1, p2, p3, p4⟩ := zgq cx.n st o.dst v
   refine ih (listed.setIfInBounds i true) n' (i :: L) e _ (a.put o.dst (v.real e)) w (by simpa using hsz) ?_ ?_ (fun c hc => ?_) (fun c hc => ?_) (by rw [p4]; exact hb) (by rw [zci]; exact has) (by rw [zbo]; exact had) (by rw [p1, p2, p3]; exact hm) (fun t u ht => ?_) (fun k d' hkd hlk => ?_) hnext
   ·have h2 : listed[i]'(by omega) = false := by simpa [Array.getD_eq_getD_getElem?, hsz, hlt] using hlisted
    have h3 : (listed.setIfInBounds i true).toList.count false + 1 = listed.toList.count false := by
     rw [Array.toList_setIfInBounds, List.count_set (by simpa using (by omega : i < listed.size))]
     have : listed.toList[i]'(by simpa using (by omega : i < listed.size)) = false := by simpa using h2
     have hp : 0 < listed.toList.count false := List.count_pos_iff.2 (by rw [<- h2]; exact Array.getElem_mem_toList (h := by omega))
     rw [this]
     simp only [beq_self_eq_true, if_true]
     have h5 : (true == false) = false := rfl
     rw [h5]
     simp only [Bool.false_eq_true, if_false]
     omega
    omega
   ·intro k hk hlk j hj hbj
    rw [hset] at hlk ⊢
    by_cases hji : j = i
    ·rw [if_pos hji]
    ·rw [if_neg hji]
     by_cases hki : k = i
     ·subst hki; exact hprd j hj hbj
     ·rw [if_neg hki] at hlk
      exact hcl k hk hlk j hj hbj
   ·rw [hset, za6, List.mem_cons]
    by_cases hci : c = i
    ·rw [if_pos hci]
     simp [hci]
    ·rw [if_neg hci, <- hLC c hc, za6]
     simp [hci]
   ·rw [hset]
    rcases List.mem_cons.1 hc with rfl | hc
    ·rw [if_pos rfl]
     exact ⟨rfl, hlt⟩
    ·obtain ⟨h4, h5⟩ := hL c hc
     refine ⟨?_, h5⟩
     split
     ·rfl
     ·exact h4
   ·rw [p2]
    rcases zgk (st' := st) (s := st.s) ht with ⟨h2, h3, rfl⟩ | ⟨h2, h3⟩
    ·refine ⟨hvl, ?_, fun j d hj e1 => hik ⟨d, ?_⟩⟩
     ·rw [zav, if_pos h2, if_pos (by rw [has]; exact h3)]
     ·have := Tb.uniq hlt (hdsz hj).1 (by rw [<- (hdsz hj).2]; exact e1) (by rw [hdst]; exact h2)
      rw [this] at hj
      exact hj
    ·obtain ⟨h4, h5, h6⟩ := hsl t u h2
     refine ⟨h4, ?_, h6⟩
     rw [zav]
     split
     ·rename_i e1
      have h7 := h3 e1
      rw [Array.getElem?_eq_none (by rw [has]; omega)] at h5
      cases h5
     ·exact h5
   ·rw [p2]
    rw [hset] at hlk
    have hki : k ≠ i := fun e1 => hik ⟨d', e1 ▸ hkd⟩
    rw [if_neg hki] at hlk
    obtain ⟨h4, h5⟩ := hds k d' hkd hlk
    refine ⟨h4, fun t ht hlt2 => ?_⟩
    rw [zav, if_neg (fun e1 => hki (Tb.uniq hlt (hdsz hkd).1 (by rw [<- (hdsz hkd).2]; exact ht) (by rw [hdst]; exact e1)))]
    exact h5 t ht hlt2
  refine ⟨fun hr => main listed n L e st a w (zds Tb hsz hr) hLC hb has had hm hsl hds hvc, fun i hi => ?_⟩
  obtain ⟨h1, o, ho, hall⟩ := mem_ready.1 hi
  have hlt : i < ops.size := (Array.getElem?_eq_some_iff.1 ho).1
  have hun : listed.getD i false = false := by simpa [Array.getD_eq_getD_getElem?, hsz, hlt] using h1
  have hpre : ∀ j, j < ops.size -> bef ops i j = true -> listed.getD j false = true := by
   intro j hj hbj
   obtain ⟨_, ed, he, hbd, h2⟩ := Tb.close ho hj hbj
   have hle := hall ed he hbd
   rcases h2 with rfl | h2
   ·exact hle
   ·exact hcl ed.on (Nat.lt_trans (Tb.back ho ed he hbd) hlt) hle j hj h2
  have hset : ∀ j d, (listed.setIfInBounds i true).getD j d = if j = i then true else listed.getD j d := by
   intro j d
   by_cases h : j = i
   ·subst h
    rw [if_pos rfl]
    simp [Array.getD_eq_getD_getElem?, hsz, hlt]
   ·rw [if_neg h, getD_set_ne d (Ne.symm h)]
  have hcnt2 : (listed.setIfInBounds i true).toList.count false <= fuel := by
   have h2 : listed[i]'(by omega) = false := by simpa [Array.getD_eq_getD_getElem?, hsz, hlt] using h1
   have h3 : (listed.setIfInBounds i true).toList.count false + 1 = listed.toList.count false := by
    rw [Array.toList_setIfInBounds, List.count_set (by simpa using (by omega : i < listed.size))]
    have : listed.toList[i]'(by simpa using (by omega : i < listed.size)) = false := by simpa using h2
    have hp : 0 < listed.toList.count false := List.count_pos_iff.2 (by rw [<- h2]; exact Array.getElem_mem_toList (h := by omega))
    rw [this]
    simp only [beq_self_eq_true, if_true]
    have h5 : (true == false) = false := rfl
    rw [h5]
    simp only [Bool.false_eq_true, if_false]
    omega
   omega
  have hcl2 : ∀ k, k < ops.size -> (listed.setIfInBounds i true).getD k false = true -> ∀ j, j < ops.size -> bef ops k j = true -> (listed.setIfInBounds i true).getD j false = true := by
   intro k hk hlk j hj hbj
   rw [hset] at hlk ⊢
   by_cases hji : j = i
   ·rw [if_pos hji]
   ·rw [if_neg hji]
    by_cases hki : k = i
    ·subst hki; exact hpre j hj hbj
    ·rw [if_neg hki] at hlk
     exact hcl k hk hlk j hj hbj
  have hvc0 := hvc
  unfold cgoY at hvc
  obtain ⟨hstab, hvc⟩ := hvc
  have hdsz : ∀ {j d}, (j, d) ∈ ds -> j < ops.size /\ d.dst = zbj ops j := fun hj => by
   obtain ⟨oj, hoj, _, hd, _⟩ := zc9 hstab hj
   exact ⟨(Array.getElem?_eq_some_iff.1 hoj).1, by rw [hd]; simp [zbj, hoj]⟩
  have hsat : Sat cx e (rst cx.n ops tb ds i o st) a w := by
   refine ⟨hb, has, had, fun t v ht => ?_, hm⟩
   obtain ⟨_, ht⟩ := zda ht
   rw [zbp] at ht
   split at ht
   ·rename_i v' hv'
    cases ht
    obtain ⟨j, d, h1, h2, h3, rfl⟩ := zbs hv'
    obtain ⟨h4, h5⟩ := zdk.1 h1
    obtain ⟨h6, h7⟩ := hds j d h4 (hpre j (hdsz h4).1 (by rw [hbit]; exact h5))
    exact ⟨h6, h7 t h2 h3⟩
   ·obtain ⟨h4, h5, _⟩ := hsl t v ht
    exact ⟨h4, h5⟩
  have hdst : zbj ops i = o.dst := by simp [zbj, ho]
  unfold wpOp
  rw [ho]
  simp only
  by_cases hik : ∃ d, (i, d) ∈ ds
  ·obtain ⟨d, hd⟩ := hik
   obtain ⟨o', ho', hg, hdd, hsg⟩ := zc9 hstab hd
   rw [ho] at ho'
   cases ho'
   have hno : L.any (fun c => zbe tb c i) = false := by
    rw [<- Bool.not_eq_true]
    intro hx
    obtain ⟨c, hc, hbc⟩ := List.any_eq_true.1 hx
    obtain ⟨h2, h3⟩ := hL c hc
    have := hcl c h3 h2 i hlt (by rw [hbit]; exact hbc)
    rw [hun] at this
    cases this
   have hsg := hsg hno
   have hok := zd9 (o := o) hT hsat
   rw [if_pos (za0 hg _)]
   refine .inl ?_
   have hdv : d.v.lt (rst cx.n ops tb ds i o st).k /\ (execOp a.eval o).run P w = .ok (.value (d.v.real e)) w := by
    unfold zk0 at hsg
    split at hsg
    ·rename_i u hu
     rw [hu] at hok
     rw [<- hsg]
     exact hok
    ·rename_i ob fv hu
     rw [hu] at hok
     obtain ⟨c, hc, hv⟩ := hsg
     rw [<- hv]
     exact hok c hc
    ·exact hsg.elim
   obtain ⟨h2, h3⟩ := hdv
   unfold Oper.wp
   ·rw [h3]
    refine ih (listed.setIfInBounds i true) n L e st (a.put o.dst (d.v.real e)) w (by simpa using hsz) hcnt2 hcl2 (fun c hc => ?_) (fun c hc => ?_) hb (by rw [zci]; exact has) (by rw [zbo]; exact had) hm (fun t v ht => ?_) (fun k d' hk hlk => ?_) hvc0
    ·rw [hset]
     by_cases hci : c = i
     ·subst hci
      exact absurd hc (hdis _ _ hd)
     ·rw [if_neg hci]
      exact hLC c hc
    ·obtain ⟨h4, h5⟩ := hL c hc
     refine ⟨?_, h5⟩
     rw [hset]
     split
     ·rfl
     ·exact h4
    ·obtain ⟨h4, h5, h6⟩ := hsl t v ht
     refine ⟨h4, ?_, h6⟩
     rw [zav, if_neg (fun e1 => h6 i d hd (hdd.trans e1))]
     exact h5
    ·rw [hset] at hlk
     by_cases hki : k = i
     ·subst hki
      rw [zfj hkeys hk hd]
      refine ⟨h2, fun t ht hlt2 => ?_⟩
      rw [zav, if_pos (hdd.symm.trans ht), if_pos (by rw [has]; exact hlt2)]
     ·rw [if_neg hki] at hlk
      obtain ⟨h4, h5⟩ := hds k d' hk hlk
      refine ⟨h4, fun t ht hlt2 => ?_⟩
      rw [zav, if_neg (fun e1 => hki (Tb.uniq hlt (hdsz hk).1 (by rw [<- (hdsz hk).2]; exact ht) (by rw [hdst]; exact e1)))]
      exact h5 t ht hlt2
  ·have hiC : i ∈ C := by
    have h2 := List.all_eq_true.1 hcov i (List.mem_range.2 hlt)
    rw [Bool.or_eq_true] at h2
    rcases h2 with h2 | h2
    ·exact za6.1 h2
    ·obtain ⟨p, hp, rfl⟩ := List.mem_map.1 (za6.1 h2)
     exact absurd ⟨p.2, hp⟩ hik
   have hiL : hasN i L = false := by
    rw [<- Bool.not_eq_true]
    intro hx
    have := (hLC i hiC).1 hx
    rw [hun] at this
    cases this
   have hnall : C.all (fun i => hasN i L) = false := by
    rw [<- Bool.not_eq_true]
    intro hx
    have := List.all_eq_true.1 hx i hiC
    rw [hiL] at this
    cases this
   rw [hnall] at hvc
   simp only at hvc
   cases n with
   | zero => exact hvc.elim
   | succ n =>
    have hrdy : i ∈ zf2 C L tb := by
     refine List.mem_filter.2 ⟨hiC, ?_⟩
     rw [hiL, Bool.not_false, Bool.true_and]
     refine List.all_eq_true.2 fun j hj => ?_
     rw [Bool.or_eq_true, Bool.not_eq_true']
     cases hbj : zbe tb i j with
     | false => exact .inl rfl
     | true => exact .inr ((hLC j hj).2 (hpre j (hCb j hj) (by rw [hbit]; exact hbj)))
    rcases hvc with hvc | ⟨i', v', o', q1, q2, q3, q4, q5⟩
    rotate_left
    ·exact absurd ⟨n, i', v', o', rfl, q1, q2, q3, q4, q5⟩ hfst
    have hstep := zfg hvc hrdy
    rw [ho] at hstep
    simp only at hstep
    split at hstep
    ·exact hstep.elim
    ·rename_i hg
     rw [if_pos (za0 hg _)]
     refine .inl (hstep.run cx e a w hC rfl hsat _ _ (fun e' st' v w' hK he hk hv hbs hm' => ?_))
     have hk : st.k <= st'.k := hk
     have he : e.eqTo st.k e' := he
     obtain ⟨p1, p2, p3, p4⟩ := zgq cx.n ({ st' with s := st.s } : St) o.dst v
     refine ih (listed.setIfInBounds i true) n (i :: L) e' _ (a.put o.dst (v.real e')) w' (by simpa using hsz) hcnt2 hcl2 (fun c hc => ?_) (fun c hc => ?_) (by rw [p4]; exact hb.trans hbs.symm) (by rw [zci]; exact has) (by rw [zbo]; exact had) (by rw [p1, p2, p3]; exact hm') (fun t u ht => ?_) (fun k d' hkd hlk => ?_) hK
     ·rw [hset, za6, List.mem_cons]
      by_cases hci : c = i
      ·rw [if_pos hci]
       simp [hci]
      ·rw [if_neg hci, <- hLC c hc, za6]
       simp [hci]
     ·rw [hset]
      rcases List.mem_cons.1 hc with rfl | hc
      ·rw [if_pos rfl]
       exact ⟨rfl, hlt⟩
      ·obtain ⟨h4, h5⟩ := hL c hc
       refine ⟨?_, h5⟩
       split
       ·rfl
       ·exact h4
     ·rw [p2]
      rcases zgk ht with ⟨h2, h3, rfl⟩ | ⟨h2, h3⟩
      ·refine ⟨hv, ?_, fun j d hj e1 => hik ⟨d, ?_⟩⟩
       ·rw [zav, if_pos h2, if_pos (by rw [has]; exact h3)]
       ·have := Tb.uniq hlt (hdsz hj).1 (by rw [<- (hdsz hj).2]; exact e1) (by rw [hdst]; exact h2)
        rw [this] at hj
        exact hj
      ·obtain ⟨h4, h5, h6⟩ := hsl t u h2
       refine ⟨SV.lt_mono hk h4, ?_, h6⟩
       rw [SV.real_eq he h4]
       rw [zav]
       split
       ·rename_i e1
        have h7 := h3 e1
        rw [Array.getElem?_eq_none (by rw [has]; omega)] at h5
        cases h5
       ·exact h5
     ·rw [p2]
      rw [hset] at hlk
      have hki : k ≠ i := fun e1 => hik ⟨d', e1 ▸ hkd⟩
      rw [if_neg hki] at hlk
      obtain ⟨h4, h5⟩ := hds k d' hkd hlk
      refine ⟨SV.lt_mono hk h4, fun t ht hlt2 => ?_⟩
      rw [SV.real_eq he h4, zav, if_neg (fun e1 => hki (Tb.uniq hlt (hdsz hkd).1 (by rw [<- (hdsz hkd).2]; exact ht) (by rw [hdst]; exact e1)))]
      exact h5 t ht hlt2
theorem zr7 (hKp : ∀ ch st, ¬ K (.panic ch) st) (hC : Cc cx) {e : Env} {st : St} {a : Act} {w : World} (hT : T.Ok P) (hS : Sat cx e st a w) {id : Nat} (h : zri P T cx.n Cc ops (K .normal) st) : (Code.region id ops true).wp P (Post cx K) a w := by
 obtain ⟨tb, C, ds, htb, hlen, htab, htr, hcov, hkeys, hCb, hdis, hgo⟩ := h.ex
 have Tb := zfu htab
 have hbit : ∀ k j, bef ops k j = zbe tb k j := by
  intro k j
  unfold bef zbe
  rw [<- htb]
  congr 1
  simp [Array.getD_eq_getD_getElem?, List.getD]
 refine wp_region_any hT.mixed (zqh hKp hC hT Tb hbit hcov hkeys (zd4 hCb) (fun k d hk hc => ?_) _ _ C.length [] e { st with s := zix ds st.s } a _ (by simp) (by simp) ?_ ?_ ?_ hS.base hS.size hS.defers (hS.mem.later ⟨rfl, rfl, rfl, Nat.le_refl _, fun _ _ => rfl⟩) ?_ ?_ hgo)
 ·have := List.all_eq_true.1 hdis k (List.mem_map.2 ⟨_, hk, rfl⟩)
  rw [zem hc] at this
  cases this
 ·intro k hk hlk
  rw [za9] at hlk
  cases hlk
 ·intro i hi
  rw [za9]
  simp [hasN]
 ·intro i hi
  cases hi
 ·intro i v hi
  obtain ⟨h1, h2⟩ := zea hi
  exact ⟨(hS.slots i v h1).1, (hS.slots i v h1).2, h2⟩
 ·intro k d hk hlk
  rw [za9] at hlk
  cases hlk
theorem zaw.drawY {N : Nat} {st : St} (hT : T.Ok P) {id : Nat} (h : zri P T N Cc ops (K .normal) st) : zaw P N Cc (.region id ops true) K st :=
 ⟨fun cx e a w hc hn hS => by
  subst hn
  refine wp_mono (zr7 (K := fun ex st => match ex with | .normal => K .normal st | _ => False) (fun _ _ h => h) hc hT hS h) ?_
  rintro ex a' w' ⟨e', st', hK, hS'⟩
  cases ex with
  | normal => exact ⟨e', st', hK, hS'⟩
  | _ => exact hK.elim⟩
end
section
variable {P : Program} {T : Tab} {N : Nat} {Cc : Cx -> Prop} {ops : Array Oper} {tb C : List Nat} {ds : List (Nat × Dl)} {K : St -> Prop} {n : Nat} {L : List Nat} {st : St}
structure zv1 (P : Program) (T : Tab) (N : Nat) (Cc : Cx -> Prop) (ops : Array Oper) (tb C : List Nat) (ds : List (Nat × Dl)) (K : St -> Prop) (n : Nat) (L : List Nat) (st : St) (i : Nat) : Prop where
 ex : ∃ o, ops[i]? = some o /\ o.guard = none /\ OpX P N Cc o (rst N ops tb ds i o st) (fun v st' => cgoY P T N Cc ops tb C ds K n (i :: L) (({ st' with s := st.s } : St).put N o.dst v))
def allY (P : Program) (T : Tab) (N : Nat) (Cc : Cx -> Prop) (ops : Array Oper) (tb C : List Nat) (ds : List (Nat × Dl)) (K : St -> Prop) (n : Nat) (L : List Nat) (st : St) : List Nat -> Prop
 | [] => True
 | i :: r => zv1 P T N Cc ops tb C ds K n L st i /\ allY P T N Cc ops tb C ds K n L st r
theorem zag (st1 : St) (l : List Nat) (he : st = st1) (hn : C.all (fun i => hasN i L) = false) (hr : zf2 C L tb = l) (hs : ziv T N ops tb ds L st1 ds) (h : allY P T N Cc ops tb C ds K n L st1 l) : cgoY P T N Cc ops tb C ds K (n + 1) L st := by
 subst he hr
 unfold cgoY
 refine ⟨hs, ?_⟩
 rw [hn]
 simp only
 have key : ∀ l, allY P T N Cc ops tb C ds K n L st l -> zjk (fun i => match ops[i]? with
    | none => False
    | some o => match o.guard with
     | some _ => False
     | none => OpX P N Cc o (rst N ops tb ds i o st) (fun v st' => cgoY P T N Cc ops tb C ds K n (i :: L) (({ st' with s := st.s } : St).put N o.dst v))) l := by
  intro l
  induction l with
  | nil => intro _; trivial
  | cons i r ih =>
   rintro ⟨⟨o, ho, hg, hk⟩, hr⟩
   refine ⟨?_, ih hr⟩
   simp only [ho, hg]
   exact hk
 exact .inl (key _ h)
theorem zau (st1 : St) (he : ({ st with s := selS N ds ++ st.s } : St) = st1) (hn : C.all (fun i => hasN i L) = true) (hs : ziv T N ops tb ds L st ds) (h : K st1) : cgoY P T N Cc ops tb C ds K n L st := by
 subst he
 unfold cgoY
 refine ⟨hs, ?_⟩
 rw [hn]
 exact h
theorem zp4 (st1 : St) (i : Nat) (v : SV) (o : Oper) (he : st = st1) (hn : C.all (fun i => hasN i L) = false) (hs : ziv T N ops tb ds L st1 ds) (h1 : zjr ops tb C ds L i = true) (h2 : ops[i]? = some o) (h3 : zlg o = true) (h4 : sig T (rst N ops tb ds i o st1) o = .det v) (h : cgoY P T N Cc ops tb C ds K n (i :: L) (st1.put N o.dst v)) : cgoY P T N Cc ops tb C ds K (n + 1) L st := by
 subst he
 unfold cgoY
 refine ⟨hs, ?_⟩
 rw [hn]
 exact .inr ⟨i, v, o, h1, h2, h3, h4, h⟩
end
end Go.Proofs.Sym
end
section
set_option linter.unusedVariables false
set_option linter.unusedSimpArgs false
namespace Go.Proofs.YtmkpiekbpakigaaDoor
open Go.RowKit Go.Proofs.Base Go.Proofs.Sym
def vT (n : Int) : Tm := .mk 1 n ⟨#[]⟩ [] []
def sA : ByteArray := ⟨#[97]⟩
def sB : ByteArray := ⟨#[98]⟩
def sC : ByteArray := ⟨#[99]⟩
def sP : ByteArray := ⟨#[112]⟩
def sQ : ByteArray := ⟨#[113]⟩
def n2T (k : Int) (a b : Tm) : Tm := .mk k 0 ⟨#[]⟩ [] [a, b]
def tX : Tm := n2T 5 (vT 1) (vT 0)
def tY : Tm := n2T 5 (cT sA) (cT sB)
def tF : Tm := n2T 6 (cT sA) (vT 1)
def tG : Tm := n2T 6 (cT sA) (vT 3)
def tO : Tm := n2T 7 (cT sA) (n2T 7 (vT 0) (vT 0))
def tR : Tm := n2T 5 (cT sC) (cT sB)
def tU : Tm := .mk 3 0 ⟨#[]⟩ [⟨1, 1, -1, -1, -1⟩] []
def tW : Tm := .mk 3 0 ⟨#[]⟩ [⟨3, -1, -1, -1, -1⟩] []
theorem zyk : appT (vT 1) [vT 0] = tX := by kernel_rfl
theorem zx8 : ze2 [cT sA, cT sB] tX = some tY := by kernel_rfl
theorem zwp : zj2 [sA, sB] tY = some tX := by kernel_rfl
theorem zw9 : zsu 6 (vT 1) [cT sA] = tF := by kernel_rfl
theorem zt9 : zez 2 0 tF = some tG := by kernel_rfl
theorem zy4 : zez (-2) 0 (vT 1) = none := by kernel_rfl
theorem zt2 : zsu 7 (vT 0) [cT sA, vT 0] = tO := by kernel_rfl
theorem zxa : zd6 [] [sP, sQ] tO = some ([(sP, cT sA), (sQ, cT sP)], cT sQ) := by kernel_rfl
theorem zxl : zdn [] [sP, sQ] = true := by kernel_rfl
theorem zt6 : (zb4 7 tO).1 = 2 := by kernel_rfl
theorem zl6 : zbf tO = true := by kernel_rfl
theorem ztf : zbf (cT sQ) = true := by kernel_rfl
theorem zum : ze5 7 (sP, cT sA) (ze5 7 (sQ, cT sP) (some (cT sQ))) = some tO := by kernel_rfl
theorem zxp : zrb sA sC tY = some tR := by kernel_rfl
theorem zym : zhs [⟨2, -1, -1, -1, -1⟩] tU = some tW := by kernel_rfl
theorem zv3 : appT (cT sA) [cT sB] = tY := by kernel_rfl
theorem zw2 : appT (cT sC) [cT sB] = tR := by kernel_rfl
end Go.Proofs.YtmkpiekbpakigaaDoor
end
section
set_option linter.unusedVariables false
set_option linter.unusedSimpArgs false
namespace Go.Proofs.YtmkpiekbpakigaaDoor
open Go.RowKit Go.Proofs.Base Go.Proofs.Sym
mutual
theorem zof : ∀ (a b : TT), a.tm = b.tm -> zjj a b = true
 | .mk k n s la lc ls aa ac us, .mk k' n' s' la' lc' ls' aa' ac' us', h => by
  simp only [TT.tm, Tm.mk.injEq] at h
  obtain ⟨rfl, rfl, rfl, rfl, h⟩ := h
  rw [zjj, zl7 us us' h]
  simp
theorem zl7 : ∀ (us bs : List TT), us.map TT.tm = bs.map TT.tm -> zdb us bs = true
 | [], [], _ => by unfold zdb; rfl
 | [], _ :: _, h => by simp at h
 | _ :: _, [], h => by simp at h
 | a :: r, b :: r', h => by
  simp only [List.map_cons, List.cons.injEq] at h
  unfold zdb
  rw [zof a b h.1, zl7 r r' h.2]
  rfl
end
end Go.Proofs.YtmkpiekbpakigaaDoor
end
section
set_option linter.unusedVariables false
set_option linter.unusedSimpArgs false
namespace Go.Proofs.YtmkpiekbpakigaaDoor
open Go.RowKit Go.Proofs.Base Go.Proofs.Sym
theorem zhe (a b : TT) (h : a.tm = b.tm) : PCall Tryd.prog 33 [a.val, b.val] (zc1 a b) (fun r => r = .bool true) (fun _ _ => True) := by
 have h2 := zs1 a b
 rw [zof a b h] at h2
 exact h2
end Go.Proofs.YtmkpiekbpakigaaDoor
end
section
set_option linter.unusedVariables false
set_option linter.unusedSimpArgs false
namespace Go.Proofs.YtmkpiekbpakigaaDoor
open Go.RowKit Go.Proofs.Base Go.Proofs.Sym
def vN (n : Int) : TT := zbh 1 n ⟨#[]⟩
def cN (s : ByteArray) : TT := zbh 4 0 s
theorem zhn (n : Int) : (vN n).tm = vT n := by
 unfold vN zbh
 rw [zbz]
 rfl
theorem zg5 (s : ByteArray) : (cN s).tm = cT s := by
 unfold cN zbh
 rw [zbz]
 rfl
theorem zyn (w : World) {n : Int} (h : I64 n) : TTIn w (vN n) := zet w (I64.small _ (by decide) (by decide)) h (by decide)
theorem zy7 (w : World) {s : ByteArray} (h : s.size <= maxLen) : TTIn w (cN s) := zet w (I64.small _ (by decide) (by decide)) (I64.small _ (by decide) (by decide)) h
theorem zb2 (n : Int) : zaz Tryd.prog 72 [.one (.v (.int .i64 n))] [] 0 (fun _ => True) (fun _ : Unit => True) (fun _ => { v := ttA (vN n), m := [], k := 0 }) := by
 refine zay zac 5 [.cell 2 41] Tryd.func72 rfl rfl (by kernel_rfl) rfl _ (leB rfl) Up.true ?_
 refine zah zac [] _ _ _ ?_
 refine ⟨_, rfl, (), trivial, rfl, ?_⟩
 exact zab [] rfl rfl rfl rfl (leB rfl) ⟨⟨_, rfl, rfl⟩, trivial⟩ trivial ⟨⟨Up.true, fun w h => trivial⟩, trivial⟩
theorem zlj (s : ByteArray) : zaz Tryd.prog 73 [.one (.v (.string s))] [] 0 (fun _ => True) (fun _ : Unit => True) (fun _ => { v := ttA (cN s), m := [], k := 0 }) := by
 refine zay zac 5 [.cell 2 41] Tryd.func73 rfl rfl (by kernel_rfl) rfl _ (leB rfl) Up.true ?_
 refine zah zac [] _ _ _ ?_
 refine ⟨_, rfl, (), trivial, rfl, ?_⟩
 exact zab [] rfl rfl rfl rfl (leB rfl) ⟨⟨_, rfl, rfl⟩, trivial⟩ trivial ⟨⟨Up.true, fun w h => trivial⟩, trivial⟩
theorem zaz.toPC {P : Program} {f : FuncId} {args : List SV} {vals : List Value} {pre : World -> Prop} {X : Type} {ok : X -> Prop} {ret : X -> LRes} {R : Value -> Prop} {post : Value -> World -> Prop} (h : zaz P f args [] 0 pre ok ret) (hb : zf5 P f) (ha : ∀ e, args.map (SV.real e) = vals) (hlt : ∀ x ∈ args, x.lt 0) (hch : ∀ x, ok x -> (ret x).ch = none)
  (hup : ∀ r, Up (post r)) (hR : ∀ x e, ok x -> R ((ret x).v.real e)) (hpo : ∀ x e w, ok x -> (ret x).F w -> post ((ret x).v.real e) w) : PCall P f vals pre R post :=
 ⟨hb, hup, fun w H hH hp => ((zaz.pc h ha hlt hch w H hH hp).2).mono fun en w' ⟨x, e', hx, h1, h2, h3⟩ => ⟨_, h1, hR x e' hx, hpo x e' _ hx h2, h3⟩⟩
theorem zvm (n : Int) : PCall Tryd.prog 72 [.int .i64 n] (fun _ => True) (fun r => r = (vN n).val) (fun _ _ => True) :=
 zaz.toPC (zb2 n) ⟨_, Tryd.func72, by kernel_rfl, rfl⟩ (fun _ => rfl) (fun x hx => by rw [List.mem_singleton.1 hx]; trivial) (fun _ _ => rfl) (fun _ => Up.true) (fun _ _ _ => rfl) (fun _ _ _ _ _ => trivial)
theorem zpi (s : ByteArray) : PCall Tryd.prog 73 [.string s] (fun _ => True) (fun r => r = (cN s).val) (fun _ _ => True) :=
 zaz.toPC (zlj s) ⟨_, Tryd.func73, by kernel_rfl, rfl⟩ (fun _ => rfl) (fun x hx => by rw [List.mem_singleton.1 hx]; trivial) (fun _ _ => rfl) (fun _ => Up.true) (fun _ _ _ => rfl) (fun _ _ _ _ _ => trivial)
def isT (R : Tm) (r : Value) (w : World) : Prop := ∃ x : TT, x.tm = R /\ r = x.val /\ TTIn w x
theorem isT.up (R : Tm) (r : Value) : Up (isT R r) := by
 rintro w w' h ⟨x, h1, h2, h3⟩
 exact ⟨x, h1, h2, TTIn.up h x h3⟩
theorem zwu (x : TT) (e : Env) : (ttA x).real e = x.val := by
 show Value.agg (reals e (x.cells.map SA.v)).toArray = _
 rw [zbd]
 rfl
theorem zw6 {f : FuncId} {args : List SV} {vals : List Value} {pre : World -> Prop} {R : Tm} (h : zaz Tryd.prog f args [] 0 pre (fun x : TT => x.tm = R) zky) (hb : zf5 Tryd.prog f) (ha : ∀ e, args.map (SV.real e) = vals) (hlt : ∀ x ∈ args, x.lt 0) : PCall Tryd.prog f vals pre (fun _ => True) (isT R) :=
 zaz.toPC h hb ha hlt (fun _ _ => rfl) (isT.up R) (fun _ _ _ => trivial) (fun x e w hx hF => ⟨x, hx, zwu x e, hF⟩)
theorem sm {t : Tm} (h : Nat.ble (zb8 t) 3000 = true) : tmB t := zdj t (Nat.le_of_ble_eq_true h)
theorem zyw : tmB tX := sm (by kernel_rfl)
theorem zxz : tmB tY := sm (by kernel_rfl)
theorem zyq : tmB tF := sm (by kernel_rfl)
theorem zyt : tmB tU := sm (by kernel_rfl)
theorem zqj (n : Int) : tmB (vT n) := by
 unfold vT tmB
 refine ⟨by simp, by simp, ?_⟩
 show tmBs []
 unfold tmBs
 trivial
theorem zu9 (s : ByteArray) : tmB (cT s) := by
 unfold cT tmB
 refine ⟨by simp, by simp, ?_⟩
 show tmBs []
 unfold tmBs
 trivial
theorem zx5 (l : List Int) : ∀ u ∈ l.map vN, tmB u.tm := by
 intro u hu
 obtain ⟨n, _, rfl⟩ := List.mem_map.1 hu
 rw [zhn]
 exact zqj n
theorem zov (l : List ByteArray) : ∀ u ∈ l.map cN, tmB u.tm := by
 intro u hu
 obtain ⟨n, _, rfl⟩ := List.mem_map.1 hu
 rw [zg5]
 exact zu9 n
theorem zfc {w : World} {g : Nat} {t : TT} (h : SlAt w (some ⟨g, 0, none⟩) t.cells) (ht : TTIn w t) : TsIn w (some ⟨g, 0, none⟩) 1 [t] := by
 refine ⟨zey [t] 0 (fun i u hi => ?_) (fun z hz => by rw [List.mem_singleton.1 hz]; exact ht), fun h => (by cases h), Nat.le_refl _, by decide⟩
 rw [Nat.zero_mul, Nat.zero_add]
 refine h i u ?_
 simpa [ttsC] using hi
theorem zbn {w : World} {g : Nat} {t u : TT} (h : SlAt w (some ⟨g, 0, none⟩) (t.cells ++ u.cells)) (ht : TTIn w t) (hu : TTIn w u) : TsIn w (some ⟨g, 0, none⟩) 2 [t, u] := by
 refine ⟨zey [t, u] 0 (fun i u hi => ?_) (fun z hz => ?_), fun h => (by cases h), Nat.le_refl _, by decide⟩
 ·rw [Nat.zero_mul, Nat.zero_add]
  refine h i u ?_
  simpa [ttsC] using hi
 ·simp only [List.mem_cons, List.not_mem_nil, or_false] at hz
  rcases hz with rfl | rfl
  ·exact ht
  ·exact hu
theorem zs5 {w : World} {A : Option Addr} {t : TT} (h : zhd A t.cells w) (ht : TTIn w t) : TsIn w A 1 [t] := by
 obtain ⟨a, rfl, hc⟩ := h
 refine ⟨zey [t] 0 (fun i u hi => ?_) (fun z hz => by rw [List.mem_singleton.1 hz]; exact ht), fun h => (by cases h), Nat.le_refl _, by decide⟩
 rw [Nat.zero_mul, Nat.zero_add]
 refine ⟨a, rfl, hc i u ?_⟩
 simpa [ttsC] using hi
theorem zwi {w : World} {A : Option Addr} {t u : TT} (h : zhd A (t.cells ++ u.cells) w) (ht : TTIn w t) (hu : TTIn w u) : TsIn w A 2 [t, u] := by
 obtain ⟨a, rfl, hc⟩ := h
 refine ⟨zey [t, u] 0 (fun i u hi => ?_) (fun z hz => ?_), fun h => (by cases h), Nat.le_refl _, by decide⟩
 ·rw [Nat.zero_mul, Nat.zero_add]
  refine ⟨a, rfl, hc i u ?_⟩
  simpa [ttsC] using hi
 ·simp only [List.mem_cons, List.not_mem_nil, or_false] at hz
  rcases hz with rfl | rfl
  ·exact ht
  ·exact hu
def amG (ys : List TT) (w : World) : Prop := ML w /\ ∀ y ∈ ys, TTIn w y
theorem amG.up (ys : List TT) : Up (amG ys) := ML.up.and fun w w' h hh y hy => TTIn.up h y (hh y hy)
theorem amG.cons {ys : List TT} {y : TT} {w : World} (h : amG ys w) (hy : TTIn w y) : amG (y :: ys) w := ⟨h.1, fun z hz => by
 rcases List.mem_cons.1 hz with rfl | hz
 ·exact hy
 ·exact h.2 z hz⟩
theorem amG.get {ys : List TT} {w : World} (h : amG ys w) (i : Nat) {y : TT} (hi : ys[i]? = some y) : TTIn w y := h.2 y (List.mem_of_getElem? hi)
-- the calls
theorem zw5 (A : Option Addr) : zaz Tryd.prog 71 [ttA (vN 1), .one (.v (.slice A 1 1))] [] 0 (aG A 1 [vN 0] (vN 1)) (fun x : TT => x.tm = tX) zky := by
 have h := zra (vN 1) A 1 [vN 0] (by rw [zhn]; exact zqj 1) (zx5 [0])
 rw [zhn, show [vN 0].map TT.tm = [vT 0] by rw [List.map_cons, zhn]; rfl, zyk] at h
 exact h
theorem zwj (A : Option Addr) : zaz Tryd.prog 71 [ttA (cN sA), .one (.v (.slice A 1 1))] [] 0 (aG A 1 [cN sB] (cN sA)) (fun x : TT => x.tm = tY) zky := by
 have h := zra (cN sA) A 1 [cN sB] (by rw [zg5]; exact zu9 _) (zov [sB])
 rw [zg5, show [cN sB].map TT.tm = [cT sB] by rw [List.map_cons, zg5]; rfl, zv3] at h
 exact h
theorem zwo (A : Option Addr) : zaz Tryd.prog 71 [ttA (cN sC), .one (.v (.slice A 1 1))] [] 0 (aG A 1 [cN sB] (cN sC)) (fun x : TT => x.tm = tR) zky := by
 have h := zra (cN sC) A 1 [cN sB] (by rw [zg5]; exact zu9 _) (zov [sB])
 rw [zg5, show [cN sB].map TT.tm = [cT sB] by rw [List.map_cons, zg5]; rfl, zw2] at h
 exact h
def zj6 (x : TT) : LRes := { v := .tup [.agg (x.cells.map SA.v), .one (.v (.bool true))], m := [], k := 0, F := fun w => TTIn w x }
theorem zxy (t : TT) (ht : t.tm = tX) (A : Option Addr) : zaz Tryd.prog 40 [ttA t, .one (.v (.slice A 2 2))] [] 0 (fun w => tsP A 2 [cN sA, cN sB] w /\ TTIn w t) (fun x : TT => x.tm = tY) zj6 := by
 have h := zj1 t A 2 [cN sA, cN sB] (by rw [ht]; exact zyw) (zov [sA, sB])
 rw [ht, show [cN sA, cN sB].map TT.tm = [cT sA, cT sB] by rw [List.map_cons, List.map_cons, zg5, zg5]; rfl, zx8] at h
 exact h
theorem zxc (t : TT) (ht : t.tm = tY) (A : Option Addr) : zaz Tryd.prog 74 [ttA t, .one (.v (.slice A 2 2))] [] 0 (fun w => (ML w /\ SsIn w A 2 [sA, sB]) /\ TTIn w t) (fun x : TT => x.tm = tX) zj6 := by
 have h := zqv t A 2 [sA, sB] (by rw [ht]; exact zxz)
 rw [ht, zwp] at h
 exact h
theorem zdu (A : Option Addr) : zaz Tryd.prog 75 [.one (.v (.int .i64 6)), ttA (vN 1), .one (.v (.slice A 1 1))] [] 0 (aG A 1 [cN sA] (vN 1)) (fun x : TT => x.tm = tF) zky := by
 have h := ztn 6 (vN 1) A 1 [cN sA] (I64.small _ (by decide) (by decide)) (by rw [zhn]; exact zqj 1) (zov [sA]) (by decide)
 rw [zhn, show [cN sA].map TT.tm = [cT sA] by rw [List.map_cons, zg5]; rfl, zw9] at h
 exact h
theorem za1 (A : Option Addr) : zaz Tryd.prog 75 [.one (.v (.int .i64 7)), ttA (vN 0), .one (.v (.slice A 2 2))] [] 0 (aG A 2 [cN sA, vN 0] (vN 0)) (fun x : TT => x.tm = tO) zky := by
 have h := ztn 7 (vN 0) A 2 [cN sA, vN 0] (I64.small _ (by decide) (by decide)) (by rw [zhn]; exact zqj 0) (fun u hu => ?_) (by decide)
 ·rw [zhn, show [cN sA, vN 0].map TT.tm = [cT sA, vT 0] by rw [List.map_cons, List.map_cons, zg5, zhn]; rfl, zt2] at h
  exact h
 ·simp only [List.mem_cons, List.not_mem_nil, or_false] at hu
  rcases hu with rfl | rfl
  ·rw [zg5]; exact zu9 _
  ·rw [zhn]; exact zqj _
theorem zue (t : TT) (ht : t.tm = tF) : zaz Tryd.prog 39 [ttA t, .one (.v (.int .i64 2)), .one (.v (.int .i64 0))] [] 0 (fun w => ML w /\ TTIn w t) (fun x : TT => x.tm = tG) zj6 := by
 have h := zkt t 2 0 (by rw [ht]; exact zyq)
 rw [ht, zt9] at h
 exact h
def zzc (x : TT) : LRes := { v := .tup [.agg zan, .one (.v (.bool false))], m := [], k := 0 }
theorem zr9 : zaz Tryd.prog 39 [ttA (vN 1), .one (.v (.int .i64 (-2))), .one (.v (.int .i64 0))] [] 0 (fun w => ML w /\ TTIn w (vN 1)) (fun _ : TT => True) zzc := by
 have h := zkt (vN 1) (-2) 0 (by rw [zhn]; exact zqj 1)
 rw [zhn, zy4] at h
 exact h
theorem za2 (t : TT) (ht : t.tm = tO) (A : Option Addr) : zaz Tryd.prog 76 [ttA t, .one (.v (.int .i64 7)), .one (.v (.slice A 2 2))] [] 0 (fun w => (ML w /\ SsIn w A 2 [sP, sQ]) /\ TTIn w t) (fun q : (Option Addr × Nat) × List (ByteArray × TT) × TT => q.2.1.map locM = [(sP, cT sA), (sQ, cT sP)] /\ q.2.2.tm = cT sQ) zto :=
 zwh t 7 A 2 [sP, sQ] (by rw [ht]; exact Nat.le_of_ble_eq_true (by kernel_rfl)) (by rw [ht]; exact zl6) rfl (by rw [ht, zt6]; decide) zxl (by decide) (by intro x hx; simp only [List.mem_cons, List.not_mem_nil, or_false] at hx; rcases hx with rfl | rfl <;> decide) _ _ (by rw [ht]; exact zxa)
theorem zyh (t : TT) (ht : t.tm = tY) : zaz Tryd.prog 41 [ttA t, .one (.v (.string sA)), .one (.v (.string sC))] [] 0 (fun w => ML w /\ TTIn w t) (fun x : TT => x.tm = tR) zj6 := by
 have h := zrs t sA sC (by rw [ht]; exact zxz) (by decide)
 rw [ht, zxp] at h
 exact h
theorem zu8 (t : TT) (ht : t.tm = cT sQ) (A : Option Addr) (c : Nat) (u0 u1 : TT) (h0 : u0.tm = cT sA) (h1 : u1.tm = cT sP) : zaz Tryd.prog 77 [ttA t, .one (.v (.int .i64 7)), .one (.v (.slice A 2 c))] [] 0 (clG A [(sP, u0), (sQ, u1)] t) (fun x : TT => x.tm = tO) zj6 :=
 zty t 7 A c [(sP, u0), (sQ, u1)] rfl (I64.small _ (by decide) (by decide)) (by rw [ht]; exact Nat.le_of_ble_eq_true (by kernel_rfl)) (by rw [ht]; exact ztf) (leB rfl) tO (by
  refine Eq.trans ?_ zum
  show ze5 7 (sP, u0.tm) (ze5 7 (sQ, u1.tm) (some t.tm)) = _
  rw [h0, h1, ht]) zl6
def uL (A : Option Addr) : TT := .mk 3 0 ⟨#[]⟩ A 1 [⟨1, 1, -1, -1, -1⟩] none 0 []
theorem zx4 (A : Option Addr) : (uL A).tm = tU := by
 unfold uL
 rw [zbz]
 rfl
theorem zxs (A B : Option Addr) : zaz Tryd.prog 45 [ttA (uL A), .one (.v (.slice B 1 1))] [] 0 (fun w => (ML w /\ zcv w B [⟨2, -1, -1, -1, -1⟩]) /\ TTIn w (uL A)) (fun x : TT => x.tm = tW) zj6 := by
 have h := zq4 (uL A) B 1 [⟨2, -1, -1, -1, -1⟩] (by rw [zx4]; exact zyt)
 rw [zx4, zym] at h
 exact h
theorem zvq {w : World} {g : Nat} {l : Lv} (h : SlAt w (some ⟨g, 0, none⟩) [.int .i64 l.b, .int .i64 l.p0, .int .i64 l.p1, .int .i64 l.p2, .int .i64 l.p3]) : zcv w (some ⟨g, 0, none⟩) [l] := by
 have hc : ∀ j u, ([.int .i64 l.b, .int .i64 l.p0, .int .i64 l.p1, .int .i64 l.p2, .int .i64 l.p3] : List Value)[j]? = some u -> w.cell? ⟨g, j, none⟩ = some u := fun j u hj => by
  obtain ⟨a, ha, hc⟩ := h j u hj
  cases ha
  have e1 : (⟨g, 0, none⟩ : Addr).add j = ⟨g, j, none⟩ := by
   by_cases h0 : j = 0
   ·subst h0; simp [Addr.add]
   ·simp [Addr.add, h0]
  rw [<- e1]
  exact hc
 refine ⟨by simp, fun _ => ⟨g, 0, rfl, fun j l' hl => ?_⟩⟩
 cases j with
 | zero =>
  cases hl
  exact ⟨hc 0 _ rfl, hc 1 _ rfl, hc 2 _ rfl, hc 3 _ rfl, hc 4 _ rfl⟩
 | succ j => simp at hl
theorem zyz {w : World} {g : Nat} (h : SlAt w (some ⟨g, 0, none⟩) [.int .i64 1, .int .i64 1, .int .i64 (-1), .int .i64 (-1), .int .i64 (-1)]) : TTIn w (uL (some ⟨g, 0, none⟩)) := by
 unfold uL TTIn
 refine ⟨⟨I64.small _ (by decide) (by decide), I64.small _ (by decide) (by decide), by decide, zvq (l := ⟨1, 1, -1, -1, -1⟩) h, fun h => (by cases h), by simp, by decide, fun _ => ⟨rfl, rfl⟩, Nat.le_refl _, Nat.zero_le _⟩, ?_⟩
 unfold TTs
 trivial
theorem zi7 (a : TT) (v : Value) : PCall Tryd.prog 33 [a.val, v] (fun w => isT a.tm v w /\ TTIn w a) (fun r => r = .bool true) (fun _ _ => True) := by
 refine ⟨(zs1 a a).ent, fun _ => Up.true, ?_⟩
 rintro w H hH ⟨⟨x, hx, rfl, hxi⟩, ha⟩
 exact (zhe a x hx.symm).run w H hH ⟨ha, hxi⟩
end Go.Proofs.YtmkpiekbpakigaaDoor
end
