/- Symbolic walks: all of a function's code, and its contract. -/
import Derived.Test.YtmkpiekbpakigaaDoorSymH
set_option linter.unusedVariables false
set_option linter.unusedSimpArgs false
namespace Go.Proofs.Sym
open Go.RowKit Go.Proofs.Base Go.Proofs.Mono

/-- What one state says, another one does. -/
structure Ent (st st' : St) : Prop where
  run : ∀ (cx : Cx) (e : Env) (a : Act) (w : World), Sat cx e st a w → ∃ e', Sat cx e' st' a w
structure LoopVC (body : (Exit → St → Prop) → St → Prop) (K : Exit → St → Prop) (st : St) : Prop where
  ex : ∃ (X : Type) (Ok : X → Prop) (s : X → St) (μ : X → Nat), (∃ x, Ok x ∧ Ent st (s x)) ∧
    ∀ x, Ok x → body (fun ex st' => match ex with
      | .normal => ∃ x', Ok x' ∧ μ x' < μ x ∧ Ent st' (s x')
      | ex => K ex st') (s x)
/-- A piece of code does what it is to. -/
structure Walks (P : Program) (N : Nat) (c : Code) (K : Exit → St → Prop) (st : St) : Prop where
  run : ∀ (cx : Cx) (e : Env) (a : Act) (w : World), cx.n = N → Sat cx e st a w → c.wp P (Post cx K) a w
/-- The region that a piece of code begins with. -/
def headOf : Code → Option Nat
  | .region id _ _ => some id
  | .seq x _ => headOf x
  | .block _ c => headOf c
  | .loop c => headOf c
  | _ => none
def stopAt (z : List Nat) (c : Code) : Bool := match headOf c with
  | some id => hasN id z
  | none => false
/-- What a piece of code asks; at the regions in z it stops. -/
def svc (P : Program) (T : Tab) (N : Nat) (z : List Nat) : Code → (Exit → St → Prop) → St → Prop
  | .skip, K, st => K .normal st
  | .label _, K, st => K .normal st
  | .region _ ops draw, K, st => match draw with
    | false => sops P T N ops (K .normal) (fun ch st => K (.panic ch) st) ops.toList st
    | true => DrawVC P T N ops (K .normal) (fun ch st => K (.panic ch) st) st
  | .seq x y, K, st => svc P T N z x (fun ex st' => match ex with
      | .normal => match stopAt z y with
        | true => Walks P N y K st'
        | false => svc P T N z y K st'
      | ex => K ex st') st
  | .cond c x y, K, st => match c with
    | .tmp t => match get t st.s with
      | some (.one (.v (.bool b))) => bsplit b (svc P T N z x K { st with s := (t, .one (.v (.bool true))) :: st.s }) (svc P T N z y K { st with s := (t, .one (.v (.bool false))) :: st.s })
      | _ => False
    | .const (.bool b) => bsplit b (svc P T N z x K st) (svc P T N z y K st)
    | _ => False
  | .block id c, K, st => svc P T N z c (fun ex st' => match ex with
      | .exit j => match Nat.beq j id with
        | true => K .normal st'
        | false => K (.exit j) st'
      | ex => K ex st') st
  | .loop c, K, st => LoopVC (svc P T N z c) K st
  | .exit id, K, st => K (.exit id) st
  | .ret, K, st => K .ret st
  | _, _, _ => False
theorem least {p : Nat → Prop} (h : ∃ n, p n) : ∃ n, p n ∧ ∀ m, p m → n ≤ m := by
  obtain ⟨n, hn⟩ := h
  induction n using Nat.strongRecOn with
  | _ n ih =>
    by_cases hex : ∃ m, m < n ∧ p m
    · obtain ⟨m, hm, hpm⟩ := hex
      exact ih m hm hpm
    · exact ⟨n, hn, fun m hm => Nat.le_of_not_lt fun hlt => hex ⟨m, hlt, hm⟩⟩
open Classical in
theorem wp_loopN {P : Program} {c : Code} {Q : Exit → Act → World → Prop} (I : Nat → Act → World → Prop) {a : Act} {w : World} (h0 : ∃ n, I n a w)
    (round : ∀ n a w, I n a w → c.wp P (Exit.then (fun a' w' => ∃ n', n' < n ∧ I n' a' w') Q) a w) : (Code.loop c).wp P Q a w := by
  have hl : ∀ a w, (∃ n, I n a w) → ∃ n, I n a w ∧ ∀ m, I m a w → n ≤ m := fun a w h => least h
  refine wp_loop (fun a w => ∃ n, I n a w) (fun a w => if h : ∃ n, I n a w then Classical.choose (hl a w h) else 0) h0 fun a w h => ?_
  obtain ⟨h1, h2⟩ := Classical.choose_spec (hl a w h)
  refine wp_mono (round _ a w h1) fun ex a' w' hq => ?_
  cases ex with
  | normal =>
    obtain ⟨n', hlt, hI⟩ := hq
    refine ⟨⟨n', hI⟩, ?_⟩
    rw [dif_pos ⟨n', hI⟩, dif_pos h]
    exact Nat.lt_of_le_of_lt ((Classical.choose_spec (hl a' w' ⟨n', hI⟩)).2 n' hI) hlt
  | _ => exact hq
section
variable {P : Program} {T : Tab} {N : Nat} {z : List Nat} {K : Exit → St → Prop} {st : St}
theorem Walks.region (hT : T.Ok P) {id : Nat} {ops : Array Oper} {draw : Bool} (h : svc P T N z (.region id ops draw) K st) : Walks P N (.region id ops draw) K st := by
  refine ⟨fun cx e a w hn hS => ?_⟩
  subst hn
  unfold svc at h
  cases draw with
  | true => exact draw_ok hT hS h
  | false => exact wp_region_list (sops_ok hT ops.toList e st a w hS h)
theorem Walks.seq {x y : Code} (h : Walks P N x (fun ex st' => match ex with | .normal => Walks P N y K st' | ex => K ex st') st) : Walks P N (.seq x y) K st := by
  refine ⟨fun cx e a w hn hS => wp_seq (wp_mono (h.run cx e a w hn hS) fun ex a' w' hq => ?_)⟩
  obtain ⟨e', st', hK, hS'⟩ := hq
  cases ex with
  | normal => exact hK.run cx e' a' w' hn hS'
  | _ => exact ⟨e', st', hK, hS'⟩
theorem Walks.mono {c : Code} {K' : Exit → St → Prop} (h : Walks P N c K st) (hK : ∀ ex st', K ex st' → K' ex st') : Walks P N c K' st :=
  ⟨fun cx e a w hn hS => wp_mono (h.run cx e a w hn hS) fun _ _ _ ⟨e', st', h1, h2⟩ => ⟨e', st', hK _ _ h1, h2⟩⟩
theorem Walks.ent {c : Code} {st' : St} (he : Ent st st') (h : Walks P N c K st') : Walks P N c K st :=
  ⟨fun cx e a w hn hS => let ⟨e', hS'⟩ := he.run cx e a w hS; h.run cx e' a w hn hS'⟩
theorem Walks.cond_tmp {t : Nat} {x y : Code} {b : Bool} (hg : get t st.s = some (.one (.v (.bool b)))) (h1 : b = true → Walks P N x K { st with s := (t, .one (.v (.bool true))) :: st.s }) (h2 : b = false → Walks P N y K { st with s := (t, .one (.v (.bool false))) :: st.s }) : Walks P N (.cond (.tmp t) x y) K st := by
  refine ⟨fun cx e a w hn hS => ?_⟩
  have hev : a.eval (.tmp t) = .bool b := (hS.ev (x := .tmp t) hg).2
  refine wp_cond_split hev (fun hb => ?_) (fun hb => ?_)
  · subst hb
    exact (h1 rfl).run cx e a w hn (sat_same hS hg rfl trivial)
  · subst hb
    exact (h2 rfl).run cx e a w hn (sat_same hS hg rfl trivial)
theorem Walks.block {id : Nat} {c : Code} (h : Walks P N c (fun ex st' => match ex with | .exit j => (match Nat.beq j id with | true => K .normal st' | false => K (.exit j) st') | ex => K ex st') st) : Walks P N (.block id c) K st := by
  refine ⟨fun cx e a w hn hS => wp_block (wp_mono (h.run cx e a w hn hS) fun ex a' w' hq => ?_)⟩
  obtain ⟨e', st', hK, hS'⟩ := hq
  cases ex with
  | exit j =>
    simp only [Exit.inBlock]
    simp only at hK
    split at hK
    · rename_i hb
      rw [if_pos (by rw [← Nat.beq_eq]; exact hb)]
      exact ⟨e', st', hK, hS'⟩
    · rename_i hb
      rw [if_neg (fun e1 => by rw [e1, Nat.beq_refl] at hb; cases hb)]
      exact ⟨e', st', hK, hS'⟩
  | _ => exact ⟨e', st', hK, hS'⟩
theorem Walks.loop {c : Code} (X : Type) (Ok : X → Prop) (s : X → St) (μ : X → Nat) (h0 : ∃ x, Ok x ∧ Ent st (s x))
    (h : ∀ x, Ok x → Walks P N c (fun ex st' => match ex with | .normal => ∃ x', Ok x' ∧ μ x' < μ x ∧ Ent st' (s x') | ex => K ex st') (s x)) : Walks P N (.loop c) K st := by
  refine ⟨fun cx e a w hn hS => ?_⟩
  refine wp_loopN (fun n a w => ∃ x e, Ok x ∧ μ x = n ∧ Sat cx e (s x) a w) ?_ ?_
  · obtain ⟨x, hx, he⟩ := h0
    obtain ⟨e', hS'⟩ := he.run cx e a w hS
    exact ⟨μ x, x, e', hx, rfl, hS'⟩
  · rintro n a w ⟨x, e, hx, rfl, hS⟩
    refine wp_mono ((h x hx).run cx e a w hn hS) fun ex a' w' hq => ?_
    obtain ⟨e', st', hK, hS'⟩ := hq
    cases ex with
    | normal =>
      obtain ⟨x', hx', hlt, he'⟩ := hK
      obtain ⟨e'', hS''⟩ := he'.run cx e' a' w' hS'
      exact ⟨μ x', hlt, x', e'', hx', rfl, hS''⟩
    | _ => exact ⟨e', st', hK, hS'⟩
theorem svc_ok (hT : T.Ok P) (z : List Nat) : ∀ (c : Code) (K : Exit → St → Prop) (st : St), svc P T N z c K st → Walks P N c K st
  | .skip, K, st, h => ⟨fun cx e a w hn hS => wp_skip ⟨e, st, h, hS⟩⟩
  | .label _, K, st, h => ⟨fun cx e a w hn hS => wp_label ⟨e, st, h, hS⟩⟩
  | .region id ops draw, K, st, h => Walks.region hT h
  | .seq x y, K, st, h => by
    unfold svc at h
    refine Walks.seq ((svc_ok hT z x _ st h).mono fun ex st' hK => ?_)
    cases ex with
    | normal =>
      simp only at hK
      split at hK
      · exact hK
      · exact svc_ok hT z y K st' hK
    | _ => exact hK
  | .cond c x y, K, st, h => by
    unfold svc at h
    split at h
    · rename_i t
      split at h
      · rename_i b hb
        refine Walks.cond_tmp hb (fun e1 => ?_) (fun e1 => ?_)
        · subst e1
          exact svc_ok hT z x _ _ h
        · subst e1
          exact svc_ok hT z y _ _ h
      · exact h.elim
    · rename_i b
      refine ⟨fun cx e a w hn hS => wp_cond_split (t := b) rfl (fun e1 => ?_) (fun e1 => ?_)⟩
      · subst e1
        exact (svc_ok hT z x _ _ h).run cx e a w hn hS
      · subst e1
        exact (svc_ok hT z y _ _ h).run cx e a w hn hS
    · exact h.elim
  | .block id c, K, st, h => Walks.block (svc_ok hT z c _ st h)
  | .loop c, K, st, h => by
    unfold svc at h
    obtain ⟨X, Ok, s, μ, h0, hr⟩ := h.ex
    exact Walks.loop X Ok s μ h0 fun x hx => svc_ok hT z c _ _ (hr x hx)
  | .exit id, K, st, h => ⟨fun cx e a w hn hS => wp_exit ⟨e, st, h, hS⟩⟩
  | .ret, K, st, h => ⟨fun cx e a w hn hS => wp_ret ⟨e, st, h, hS⟩⟩
  | .rangeFunc .., _, _, h => h.elim
  | .scope _, _, _, h => h.elim
  | .goto _, _, _, h => h.elim
  | .refuse _, _, _, h => h.elim
end

/-! ### A function -/
def toTV : SV → Option TV
  | .one x => some (.one x)
  | .agg xs => some (.agg xs)
  | .tup _ => none
def resVar (T : Tab) (st : St) : ResultVar → Option SV
  | .tmp t => get t st.s
  | .cell t ty => match get t st.s, get ty T.ty with
    | some (.one (.p i o)), some ti => match get i st.m with
      | some (.cells _ cs) => partOf ti cs o
      | _ => none
    | _, _ => none
def resOf (T : Tab) (st : St) (rs : List ResultVar) : Option SV := match rs with
  | [r] => resVar T st r
  | rs => match allSome (resVar T st) rs with
    | some vs => match allSome toTV vs with
      | some ts => some (.tup ts)
      | none => none
    | none => none
theorem toTV_ok {v : SV} {t : TV} (h : toTV v = some t) (e : Env) : v.real e = t.real e := by
  unfold toTV at h
  split at h <;> cases h <;> rfl
section
variable {P : Program} {T : Tab} {cx : Cx} {e : Env} {st : St} {a : Act} {w : World}
def runVar (tmps : Array Value) : ResultVar → Sem Value
  | .tmp t => pure (tmps.getD t undef)
  | .cell a t => do loadVar t (← asAddr (tmps.getD a undef))
theorem resVar_ok (hT : T.Ok P) (hS : Sat cx e st a w) {r : ResultVar} {v : SV} (h : resVar T st r = some v) : (runVar a.tmps r).run P w = .ok (v.real e) w := by
  cases r with
  | tmp t =>
    have h2 := (hS.ev (x := .tmp t) h).2
    simp only [Act.eval] at h2
    simp [runVar, h2]
  | cell t ty =>
    simp only [resVar] at h
    split at h
    · rename_i i o ti hi hti
      split at h
      · rename_i t' cs hj
        have h2 : a.tmps.getD t undef = .pointer (some ⟨e.blk i, o, none⟩) := (hS.ev (x := .tmp t) hi).2
        obtain ⟨h3, h4⟩ := partOf_ok h e (hS.mem.sc _ _ hj).2
        have hb := hS.mem.cells _ _ _ hj
        have hag := hT.isAgg hti w
        have hsz := hT.size hti w
        simp only [runVar, Sem.run_bind, h2, asAddr, Sem.run_pure, Result.andThen_ok]
        rcases h4 with ⟨ha, hle, hv2⟩ | ⟨ha, hv2⟩
        · rw [ha] at hag
          rw [hv2, run_loadVar_agg (cs := ((reals e cs).drop o).take ti.size) hag (by rw [hsz]; simp [reals_len]; omega) (fun l u hl => ?_)]
          rw [add_off, hb.cell]
          rw [List.getElem?_take] at hl
          split at hl
          · rw [List.getElem?_drop] at hl
            simpa using hl
          · cases hl
        · rw [ha] at hag
          rw [run_loadVar_one hag (v := v.real e) (by rw [hb.cell]; simpa using hv2)]
      · cases h
    · cases h
def tupv : List Value → Value
  | [v] => v
  | vs => .tuple vs.toArray
theorem results_eq (fn : Func) (tmps : Array Value) (w : World) (vs : List Value) (h : (fn.results.toList.mapM (runVar tmps) : Sem (List Value)).run P w = .ok vs w) :
    (results fn tmps).run P w = .ok (tupv vs) w := by
  have hA : (fn.results.mapM (runVar tmps) : Sem (Array Value)).run P w = .ok vs.toArray w := by
    rw [Array.mapM_eq_mapM_toList, Sem.run_map, h]
    rfl
  have hsame : results fn tmps = (do let vs ← fn.results.mapM (runVar tmps); pure (if h : vs.size = 1 then vs[0] else .tuple vs)) := by
    unfold results
    have : (fun (x : ResultVar) => match x with | .tmp t => (pure (tmps.getD t undef) : Sem Value) | .cell a t => do loadVar t (← asAddr (tmps.getD a undef))) = runVar tmps := by
      funext r
      cases r <;> rfl
    rw [← this]
    rfl
  rw [hsame, Sem.run_bind, hA]
  simp only [Result.andThen_ok, Sem.run_pure]
  match vs with
  | [] => rfl
  | [v] => rfl
  | v :: u :: r => simp [tupv]
theorem resVars_ok (hT : T.Ok P) (hS : Sat cx e st a w) : ∀ {rs : List ResultVar} {vs : List SV}, allSome (resVar T st) rs = some vs → (rs.mapM (runVar a.tmps) : Sem (List Value)).run P w = .ok (vs.map (SV.real e)) w
  | [], vs, h => by cases h; rfl
  | r :: rs, vs, h => by
    simp only [allSome] at h
    split at h
    · rename_i v vs' h1 h2
      cases h
      simp only [List.mapM_cons, Sem.run_bind, resVar_ok hT hS h1, Result.andThen_ok, resVars_ok hT hS h2, Sem.run_pure, List.map_cons]
    · cases h
theorem resOf_ok (hT : T.Ok P) (hS : Sat cx e st a w) {fn : Func} {v : SV} (h : resOf T st fn.results.toList = some v) : (results fn a.tmps).run P w = .ok (v.real e) w := by
  unfold resOf at h
  split at h
  · rename_i r hr
    have h1 := resVar_ok hT hS h
    have := results_eq (P := P) fn a.tmps w [v.real e] (by rw [hr]; simp only [List.mapM_cons, List.mapM_nil, Sem.run_bind, h1, Result.andThen_ok, Sem.run_pure])
    exact this
  · rename_i rs hne
    split at h
    · rename_i vs hvs
      split at h
      · rename_i ts hts
        cases h
        have h1 := resVars_ok hT hS hvs
        have h2 := results_eq (P := P) fn a.tmps w _ h1
        have h3 : vs.map (SV.real e) = ts.map (TV.real e) := allSome_ok _ _ (fun x y hy => toTV_ok hy e) hts
        rw [h2, h3]
        have hl : ts.length = fn.results.toList.length := by
          have : ∀ {α β : Type} {f : α → Option β} {l : List α} {ys : List β}, allSome f l = some ys → ys.length = l.length := by
            intro α β f l
            induction l with
            | nil => intro ys h; cases h; rfl
            | cons x r ih =>
              intro ys h
              simp only [allSome] at h
              split at h
              · rename_i h1 h2
                cases h
                simp [ih h2]
              · cases h
          rw [this hts, this hvs]
        match ts, hl with
        | [], _ => rfl
        | [t], hl =>
          exfalso
          match hq : fn.results.toList, hl with
          | [r], _ => exact hne r hq
        | t :: u :: r, _ => rfl
      · cases h
    · cases h
end
def argSlots : Nat → List SV → List (Nat × SV)
  | _, [] => []
  | i, v :: r => (i, v) :: argSlots (i + 1) r
theorem get_args : ∀ {vs : List SV} {b i : Nat} {v : SV}, get i (argSlots b vs) = some v → b ≤ i ∧ vs[i - b]? = some v
  | [], b, i, v, h => by cases h
  | u :: r, b, i, v, h => by
    rcases get_cons h with ⟨rfl, rfl⟩ | ⟨hne, h⟩
    · exact ⟨Nat.le_refl _, by simp⟩
    · obtain ⟨h1, h2⟩ := get_args h
      refine ⟨by omega, ?_⟩
      rw [show i - b = (i - (b + 1)) + 1 by omega]
      simpa using h2
/-- What a walk's end tells. -/
structure Told (st : St) (v : SV) (R : Value → Prop) (post : Value → World → Prop) : Prop where
  run : ∀ (cx : Cx) (e : Env) (w : World), (∀ g, ¬ cx.G g) → Mem cx e st.m st.k st.f w → R (v.real e) ∧ post (v.real e) (hide cx.H w)
theorem Told.val {st : St} {x : Value} {R : Value → Prop} (h : R x) : Told st (.one (.v x)) R (fun _ _ => True) := ⟨fun _ _ _ _ _ => ⟨h, trivial⟩⟩
def endK (T : Tab) (rs : List ResultVar) (R : Value → Prop) (post : Value → World → Prop) : Exit → St → Prop
  | .normal, st => ∃ v, resOf T st rs = some v ∧ Told st v R post
  | .ret, st => ∃ v, resOf T st rs = some v ∧ Told st v R post
  | _, _ => False
theorem pcall_of {P : Program} {T : Tab} (hT : T.Ok P) {f : FuncId} {fn : Func} {c : Code} (N : Nat) (rs : List ResultVar) (hf : P.funcs[f]? = some fn) (hN : fn.ntmps = N) (hrs : fn.results.toList = rs) (hn : (fn.name == "runtime.NumGoroutine") = false) (hb : fn.body = some c) (args : List Value) (hl : args.length ≤ N)
    {pre : World → Prop} {R : Value → Prop} {post : Value → World → Prop} (hpre : Up pre) (hpost : ∀ r, Up (post r))
    (h : Walks P N c (endK T rs R post) { s := argSlots 0 (args.map fun v => .one (.v v)), m := [], k := 0, f := [pre] }) : PCall P f args pre R post := by
  subst hN hrs
  refine ⟨⟨fn, hf, hn, by rw [hb]; rfl⟩, hpost, fun w H hH hp => calls_of_wp hf hb ?_⟩
  refine wp_mono (h.run ⟨w, fun _ => False, H, hH, fun _ h => h.elim, ⟨fun _ => 0, fun _ => (none, 0, 0)⟩, 0, fn.ntmps⟩ ⟨fun _ => 0, fun _ => (none, 0, 0)⟩ _ w rfl ?_) ?_
  · refine ⟨rfl, by simp; omega, rfl, fun i v hi => ?_, ?_⟩
    · obtain ⟨_, h2⟩ := get_args hi
      simp only [Nat.sub_zero, List.getElem?_map] at h2
      cases hq : args[i]? with
      | none => rw [hq] at h2; cases h2
      | some x =>
        rw [hq] at h2
        cases h2
        refine ⟨trivial, ?_⟩
        have hi := (List.getElem?_eq_some_iff.1 hq).1
        rw [Array.getElem?_append_left (by simpa using hi)]
        simpa [SV.real, SA.real] using hq
    · have hat : ∀ {i g}, ¬ At ⟨fun _ => 0, fun _ => (none, 0, 0)⟩ [] i g := fun ⟨b, hb, _⟩ => by cases hb
      refine ⟨Fr.refl _ _, fun i hi => (by cases hi), Nat.le_refl _, fun i t cs hi => (by cases hi), fun i E z n xs hi => (by cases hi), fun i b hi => (by cases hi), fun i g hg => absurd hg hat, fun i j g hg => absurd hg hat, fun F hF => ?_, fun F hF => ?_⟩
      · rw [List.mem_singleton.1 hF]
        exact hpre
      · rw [List.mem_singleton.1 hF]
        refine hpre _ _ (hide_ext fun g o hg hn => ⟨hg, fun hx => hn ?_⟩) hp
        rcases hx with hx | ⟨i, hx⟩
        · exact hx
        · exact absurd hx hat
  · rintro ex a' w' ⟨e', st', hK, hS'⟩
    have fin : ∀ v, resOf T st' fn.results.toList = some v → Told st' v R post → a'.defers = [] ∧ ∃ v, (results fn a'.tmps).run P w' = .ok v w' ∧ ∃ r, Ending.returned v = .returned r ∧ R r ∧ post r (hide H w') ∧ Below w.heap.size w w' := by
      intro v hv hfin
      obtain ⟨h1, h2⟩ := hfin.run _ e' w' (fun _ hg => hg) hS'.mem
      exact ⟨hS'.defers, _, resOf_ok hT hS' hv, _, rfl, h1, h2, hS'.mem.fr.below⟩
    cases ex with
    | normal => obtain ⟨v, hv, hfin⟩ := hK; exact fin v hv hfin
    | ret => obtain ⟨v, hv, hfin⟩ := hK; exact fin v hv hfin
    | _ => exact hK.elim
end Go.Proofs.Sym
