/- What the claim needs of Own4, Own5, SymR, Rd3, Rd5, Rd6, Rd8, Rd9, Tk4, Mv1, SymS, Mv2, Mv3, Mv4, Mv5, in one text. -/
import Derived.Recover
import Derived.Tactics
import Derived.Tactics2
import Derived.Test.YtmkpiekbpakigaaDoorDomf
section
set_option linter.unusedVariables false
set_option linter.unusedSimpArgs false
namespace Go.Proofs.YtmkpiekbpakigaaDoor
open Go.ChangeShapes Go.WideShapes Go.ChangeAt Go.RowKit Go.Proofs.Base Go.Proofs.Sym
def zmh : List TypeId := [3, 9, 24, 32, 37, 39, 41, 44, 46]
theorem zs5 : ∀ t ∈ zmh, Tryd.prog.readableRec t = true /\ t < Tryd.prog.types.size := by
 have h : (zmh.all fun t => Tryd.prog.readableRec t && decide (t < Tryd.prog.types.size)) = true := by kernel_rfl
 intro t ht
 have := List.all_eq_true.1 h t ht
 simpa using this
theorem zno (t : TypeId) (h : t ∈ zmh) : Tryd.prog.wantsStandIn t = false := by
 have h2 : (zmh.all fun t => !Tryd.prog.wantsStandIn t) = true := by kernel_rfl
 have := List.all_eq_true.1 h2 t h
 simpa using this
mutual
def zyz : DataW Unit -> List Value
 | .lit (.int k n) => [.int k n]
 | .agg xs => zx1 xs
 | _ => []
def zx1 : List (DataW Unit) -> List Value
 | [] => []
 | x :: r => zyz x ++ zx1 r
end
noncomputable def zyj (h : Array Obj) : Array Obj := (h.modify 2 (zxf (zyz Rows.laid_unicode_utf8_first).toArray)).modify 3 (zxf (zyz Rows.laid_unicode_utf8_acceptRanges).toArray)
noncomputable def zlu (os : Os) : World :=
 { World.holding Tryd.prog os ⟨#[], #[], []⟩ with heap := zyj (World.holding Tryd.prog os ⟨#[], #[], []⟩).heap }
end Go.Proofs.YtmkpiekbpakigaaDoor
end
section
set_option linter.unusedVariables false
set_option linter.unusedSimpArgs false
namespace Go.Proofs.YtmkpiekbpakigaaDoor
open Go.ChangeShapes Go.WideShapes Go.ChangeAt Go.RowKit Go.Proofs.Base Go.Proofs.Sym
mutual
def TTB : TT -> Prop
 | .mk _ _ _ _ _ ls _ _ args => ls.length * 40 <= reachBytes /\ args.length * 80 <= reachBytes /\ TTBs args
def TTBs : List TT -> Prop
 | [] => True
 | t :: r => TTB t /\ TTBs r
end
theorem zs0 : ∀ (ts : List TT), (∀ t ∈ ts, TTB t) -> TTBs ts
 | [], _ => by unfold TTBs; trivial
 | t :: r, h => by
  unfold TTBs
  exact ⟨h t List.mem_cons_self, zs0 r fun u hu => h u (List.mem_cons_of_mem _ hu)⟩
structure DDB (d : DD) : Prop where
 ty : TTB d.ty
 val : TTB d.val
 len : d.cts.length * 96 <= reachBytes
 cts : ∀ c ∈ d.cts, TTB c.2
section
variable {H : Type} {enc : TypeId × Value -> H} {w : World} {base : Nat} {sp : Nat -> Bool} {held : Bool}
def WtOk (t : TypeId) (d : DataW H) : Prop := ∀ n ∈ d.weights Tryd.prog t, n <= reachBytes
theorem zf9 {e : TypeId} {n : Nat} {d : DataW H} : ∀ {ds : List (DataW H)}, d ∈ ds -> n ∈ d.weights Tryd.prog e -> n ∈ DataW.weightsAll Tryd.prog e ds
 | x :: r, hd, hn => by
  rw [DataW.weightsAll]
  rcases List.mem_cons.1 hd with rfl | hd
  ·exact List.mem_append.2 (.inl hn)
  ·exact List.mem_append.2 (.inr (zf9 hd hn))
theorem zdv {n : Nat} {t : TypeId} {d : DataW H} : ∀ {ts : List TypeId} {ds : List (DataW H)} {j : Nat}, ts[j]? = some t -> ds[j]? = some d -> n ∈ d.weights Tryd.prog t -> n ∈ DataW.weightsEach Tryd.prog ts ds
 | x :: ts, y :: ds, 0, h1, h2, hn => by
  simp only [List.getElem?_cons_zero, Option.some.injEq] at h1 h2
  subst h1 h2
  rw [DataW.weightsEach]
  exact List.mem_append.2 (.inl hn)
 | x :: ts, y :: ds, j + 1, h1, h2, hn => by
  rw [DataW.weightsEach]
  exact List.mem_append.2 (.inr (zdv (j := j) (by simpa using h1) (by simpa using h2) hn))
theorem zx6 {α : Type} {e t : TypeId} {z y : Nat} (C : α -> List Value) (In : α -> Prop) (ht : Tryd.prog.underlying t = some (.slice e)) (hz : Tryd.prog.cellsOf e = z) (hy : Tryd.prog.bytesOf e = y) (hC : ∀ a, (C a).length = z) {fuel : Nat} {cs : List Value} {x : DataW H × List MemPlace}
  (h : DataW.trod enc Tryd.prog w base sp held fuel t cs = some x) (hw : WtOk t x.1) (ih : ∀ n, n < fuel -> ∀ cs x, DataW.trod enc Tryd.prog w base sp held n e cs = some x -> WtOk e x.1 -> ∃ a, cs = C a /\ In a) :
  ∃ (A : Option Addr) (c : Nat) (us : List α), cs = [.slice A us.length c] /\ us.length <= c /\ c <= maxLen /\ (A = none -> us.length = 0 /\ c = 0) /\ us.length * y <= reachBytes /\ ∀ j a, us[j]? = some a -> (∃ ad, A = some ad /\ ∀ l u, (C a)[l]? = some u -> w.cell? ((ad.add (j * z)).add l) = some u) /\ In a := by
 rcases DataW.trod_slice ht h with ⟨hcs, -⟩ | ⟨a, len, cap, elems, rest, n, hfu, hcs, hx, _, hl, hm, hlen, hel, _, _⟩
 ·exact ⟨none, 0, [], hcs, Nat.le_refl _, Nat.zero_le _, fun _ => ⟨rfl, rfl⟩, by simp, fun j a hj => by simp at hj⟩
 ·have hx1 : x.1 = .slice (elems.map (·.1)) (rest.map (·.1)) := by rw [hx]
  unfold WtOk at hw
  rw [hx1, DataW.weights, ht] at hw
  simp only at hw
  obtain ⟨us, h1, h2⟩ := zgj (Q := fun j y => (∀ i c, (C y)[i]? = some c -> w.cell? ((a.add (j * z)).add i) = some c) /\ In y) len fun j hj => by
   have h3 := hel j hj
   have hj' : j < elems.length := by omega
   rw [List.getElem?_eq_getElem hj', hz] at h3
   obtain ⟨cs', h4, h5⟩ := Option.bind_eq_some_iff.1 h3
   obtain ⟨y, rfl, hy⟩ := ih n (by omega) _ _ h5 (fun q hq => hw q (List.mem_cons_of_mem _ (List.mem_append.2 (.inl (zf9 (List.mem_map.2 ⟨_, List.getElem_mem hj', rfl⟩) hq)))))
   obtain ⟨_, h6, h7⟩ := World.cells?_some h4
   refine ⟨y, fun i c hi => ?_, hy⟩
   rw [h7 i (by have := (List.getElem?_eq_some_iff.1 hi).1; rw [hC] at this; exact this), hi]
  refine ⟨some a, cap, us, by rw [hcs, h1], by omega, hm, fun h => (by cases h), ?_, fun j y hj => ?_⟩
  ·have h3 := hw _ List.mem_cons_self
   rw [hy, List.length_map, hlen] at h3
   rw [h1]
   exact Nat.le_trans (Nat.mul_le_mul_right _ (Nat.le_add_right _ _)) h3
  ·obtain ⟨h3, h4⟩ := h2 j y hj
   exact ⟨⟨a, rfl, h3⟩, h4⟩
theorem znl {t : TypeId} {fs : Array Field} {ds : List (DataW H)} (ht : Tryd.prog.underlying t = some (.struct fs)) (hw : WtOk t (.agg ds)) {j : Nat} {f : Field} {d : DataW H} (hf : (fs.toList.map (·.type))[j]? = some f.type) (hd : ds[j]? = some d) : WtOk f.type d := by
 intro n hn
 refine hw n ?_
 rw [DataW.weights, ht]
 exact zdv hf hd hn
theorem zyu : Tryd.prog.bytesOf 24 = 40 := by kernel_rfl
theorem zy8 : Tryd.prog.bytesOf 41 = 80 := by kernel_rfl
theorem zu0 {fuel : Nat} {cs : List Value} {x : DataW H × List MemPlace} (h : DataW.trod enc Tryd.prog w base sp held fuel 32 cs = some x) (hw : WtOk 32 x.1) :
  ∃ (A : Option Addr) (c : Nat) (ls : List Lv), cs = [.slice A ls.length c] /\ ls.length <= c /\ c <= maxLen /\ (A = none -> ls.length = 0 /\ c = 0) /\ zcz w A ls /\ ls.length * 40 <= reachBytes := by
 obtain ⟨A, c, ls, h1, h2, h3, h4, h5⟩ := zng h
 obtain ⟨A', c', ls', h1', _, _, _, h6, _⟩ := zx6 Lv.cells (fun _ => True) Tryd.underlying32 zoz zyu (fun _ => rfl) h hw (fun n _ cs x hx _ => by
  obtain ⟨l, hl, _⟩ := zji hx
  exact ⟨l, hl, trivial⟩)
 refine ⟨A, c, ls, h1, h2, h3, h4, h5, ?_⟩
 rw [h1] at h1'
 simp only [List.cons.injEq, Value.slice.injEq, and_true] at h1'
 rw [h1'.2.1]
 exact h6
set_option maxRecDepth 100000 in
theorem zy3 : ∀ (fuel : Nat) (cs : List Value) (x : DataW H × List MemPlace), DataW.trod enc Tryd.prog w base sp held fuel 41 cs = some x -> WtOk 41 x.1 -> ∃ t : TT, cs = t.cells /\ (TTIn w t /\ TTB t) := by
 intro fuel
 induction fuel using Nat.strongRecOn with
 | _ fuel ih =>
 intro cs x h hw
 obtain ⟨ys, m, hfu, hx, hl, hlen, hf⟩ := DataW.trod_struct Tryd.underlying41 h
 match ys, hlen with
 | [y0, y1, y2, y3, y4], _ =>
  have h0 := hf 0 _ rfl
  have h1 := hf 1 _ rfl
  have h2 := hf 2 _ rfl
  have h3 := hf 3 _ rfl
  have h4 := hf 4 _ rfl
  rw [hx] at hw
  have w3 := znl Tryd.underlying41 hw (j := 3) (d := y3.1) rfl rfl
  have w4 := znl Tryd.underlying41 hw (j := 4) (d := y4.1) rfl rfl
  rw [zsc] at hl
  match cs, hl with
  | [c0, c1, c2, c3, c4], _ =>
   simp [zuk, zz7, zyk, zyt] at h0 h1 h2 h3 h4
   obtain ⟨k, e0, _, s0⟩ := DataW.trod_int Tryd.underlying3 h0
   obtain ⟨n, e1, _, s1⟩ := DataW.trod_int Tryd.underlying3 h1
   obtain ⟨s, e2, _, s2⟩ := DataW.trod_string Tryd.underlying9 h2
   obtain ⟨la, lc, ls, e3, g1, g2, g3, g4, gw⟩ := zu0 h3 w3
   obtain ⟨aa, ac, us, e4, g5, g6, g7, gv, g8⟩ := zx6 TT.cells (fun t => TTIn w t /\ TTB t) Tryd.underlying39 zsc zy8 TT.cells_len h4 w4 (fun n hn cs x hx hw => ih n (by omega) cs x hx hw)
   simp only [List.cons.injEq, and_true] at e0 e1 e2 e3 e4
   subst e0 e1 e2 e3 e4
   refine ⟨.mk k n s la lc ls aa ac us, rfl, ?_, ?_⟩
   ·unfold TTIn
    refine ⟨⟨zxx s0, zxx s1, s2, g4, g3, g1, g2, g7, g5, g6⟩, zxv us 0 fun i t hi => ?_⟩
    rw [Nat.zero_add]
    obtain ⟨q1, q2⟩ := g8 i t hi
    exact ⟨q1, q2.1⟩
   ·unfold TTB
    refine ⟨gw, gv, zs0 us fun t ht => ?_⟩
    obtain ⟨i, hi, e⟩ := List.getElem_of_mem ht
    exact (g8 i t (by rw [<- e]; exact List.getElem?_eq_getElem hi)).2.2
end
end Go.Proofs.YtmkpiekbpakigaaDoor
end
section
set_option linter.unusedVariables false
set_option linter.unusedSimpArgs false
namespace Go.Proofs.Sym
open Go.RowKit Go.Proofs.Base Go.Proofs.Mono
theorem Mem.row_seen2 {cx : Cx} {e : Env} {m : List (Nat × LB)} {k : Nat} {f : List (World -> Prop)} {w : World} (h : Mem cx e m k f w) {i E z n : Nat} {xs : List Value} (hi : get i m = some (.own E z n xs)) (H' : Nat -> Prop) (hH : ∀ g, At e m i g -> ¬ H' g) :
  ∃ A c, e.rv i = .slice A n c /\ (∀ a, A = some a -> a.spot = none) /\ (A = none -> n = 0 /\ c = 0) /\ n <= c /\ c <= maxLen /\ SlAt (hide H' w) A xs := by
 have h1 := h.own i E z n xs hi
 rcases h1.2 with ⟨hv, h0⟩ | ⟨g, cap, cur, hv, _, hh, hnc, hcm, hcs, ht⟩
 ·refine ⟨none, 0, by rw [hv, h0], fun _ ha => (by cases ha), fun _ => ⟨h0, rfl⟩, by omega, by simp [maxLen], ?_⟩
  have : xs = [] := List.eq_nil_of_length_eq_zero (by rw [h1.1, h0, Nat.zero_mul])
  rw [this]
  exact SlAt.nil _ _
 ·refine ⟨some ⟨g, 0, none⟩, cap, hv, fun a ha => (by cases ha; rfl), fun hn => (by cases hn), hnc, hcm, fun j u hj => ⟨_, rfl, ?_⟩⟩
  have hb := zb5 hh (hH g ⟨_, hi, by simp only [LB.block, hv, Value.ownBlock]⟩)
  rw [zbl, cell_of_row _ g (0 + j) cur E (0, 0) hb]
  rw [<- ht, List.getElem?_take] at hj
  split at hj
  ·simpa using hj
  ·cases hj
theorem zoj {cx : Cx} {e : Env} {st : St} {a : Act} {w : World} (hS : Sat cx e st a w) {i E z n : Nat} {xs : List Value} (hi : get i st.m = some (.own E z n xs)) :
  ∃ A c, (∀ a, A = some a -> a.spot = none) /\ (A = none -> n = 0 /\ c = 0) /\ n <= c /\ c <= maxLen /\ Sat cx e (freeze i (.slice A n c) (fun w => SlAt w A xs) st) a w := by
 have hm := hS.mem
 have hat : ∀ {v : Value} {j g}, At e ((i, LB.dead) :: frzM i v st.m) j g -> j ≠ i /\ At e st.m j g := by
  rintro v j g ⟨b, hb, hg⟩
  rcases zah hb with ⟨rfl, rfl⟩ | ⟨hne, hb⟩
  ·cases hg
  ·obtain ⟨b0, h1, h2⟩ := zbx hb
   refine ⟨hne, b0, h1, ?_⟩
   rcases h2 with ⟨u, cs, rfl, rfl⟩ | ⟨rfl, _⟩
   ·exact hg
   ·exact hg
 obtain ⟨A, c, hv, h0, h1, h2, h3, h4⟩ := hm.row_seen2 hi (fun g => cx.H g \/ ∃ j, j ≠ i /\ At e st.m j g) (by
  intro g hg hx
  rcases hx with hx | ⟨j, hne, hx⟩
  ·rcases hm.free i g hg with h | h
   ·exact Nat.lt_irrefl _ (Nat.lt_of_lt_of_le (cx.hH g hx) h)
   ·exact cx.hG g h hx
  ·exact hne (hm.apart _ _ _ hx hg))
 refine ⟨A, c, h0, h1, h2, h3, hS.base, hS.size, hS.defers, fun t u hu => ?_, hm.fr, hm.ids, hm.low, fun j t cs hj => ?_, fun j E' z' n' xs' hj => ?_, fun j b hj => ?_, fun j g hg => hm.free j g (hat hg).2, fun j l g hj hl => hm.apart j l g (hat hj).2 (hat hl).2, fun F hF => ?_, fun F hF => ?_⟩
 ·obtain ⟨u0, h5, rfl⟩ := zic hu
  obtain ⟨h6, h7⟩ := hS.slots _ _ h5
  exact ⟨zo1 rfl h6, by rw [h7, zol hv]⟩
 ·rcases zah hj with ⟨rfl, e1⟩ | ⟨hne, hj⟩
  ·cases e1
  ·obtain ⟨b0, h5, h6⟩ := zbx hj
   rcases h6 with ⟨u, cs0, rfl, h7⟩ | ⟨h7, h8⟩
   ·cases h7
    rw [zha hv]
    exact hm.cells _ _ _ h5
   ·exact absurd h7.symm (h8 _ _)
 ·rcases zah hj with ⟨rfl, e1⟩ | ⟨hne, hj⟩
  ·cases e1
  ·obtain ⟨b0, h5, h6⟩ := zbx hj
   rcases h6 with ⟨u, cs0, rfl, h7⟩ | ⟨h7, h8⟩
   ·cases h7
   ·rw [<- h7] at h5
    exact hm.own _ _ _ _ _ h5
 ·rcases zah hj with ⟨rfl, e1⟩ | ⟨hne, hj⟩
  ·subst e1
   exact ⟨(hm.sc _ _ hi).1, trivial⟩
  ·obtain ⟨b0, h5, h6⟩ := zbx hj
   obtain ⟨h7, h8⟩ := hm.sc _ _ h5
   refine ⟨h7, ?_⟩
   rcases h6 with ⟨u, cs0, rfl, rfl⟩ | ⟨rfl, _⟩
   ·intro x hx
    obtain ⟨q, hq, rfl⟩ := List.mem_map.1 hx
    exact zhn rfl (h8 q hq)
   ·exact h8
 ·rcases List.mem_cons.1 hF with rfl | hF
  ·exact SlAt.up A xs
  ·exact hm.up F hF
 ·have hsub : ∀ g, (cx.H g \/ Own e ((i, LB.dead) :: frzM i (.slice A n c) st.m) g) -> (cx.H g \/ ∃ j, j ≠ i /\ At e st.m j g) := by
   rintro g (hx | ⟨j, hx⟩)
   ·exact .inl hx
   ·exact .inr ⟨j, hat hx⟩
  rcases List.mem_cons.1 hF with rfl | hF
  ·exact SlAt.up A xs _ _ (zax fun g o hg hn => ⟨hg, fun hx => hn (hsub g hx)⟩) h4
  ·refine hm.up F hF _ _ (zax fun g o hg hn => ⟨hg, fun hx => hn ?_⟩) (hm.facts F hF)
   rcases hsub g hx with hx | ⟨j, _, hx⟩
   ·exact .inl hx
   ·exact .inr ⟨j, hx⟩
theorem zai.freeze2 {P : Program} {N : Nat} {c : Code} {K : Exit -> St -> Prop} {st : St} (i : Nat) {E z n : Nat} {xs : List Value} (hi : get i st.m = some (.own E z n xs))
  (h : ∀ A cp, (∀ a, A = some a -> a.spot = none) -> (A = none -> n = 0 /\ cp = 0) -> n <= cp -> cp <= maxLen -> zai P N c K (Sym.freeze i (.slice A n cp) (fun w => SlAt w A xs) st)) : zai P N c K st :=
 ⟨fun cx e a w hn hS => let ⟨A, cp, h0, h1, h2, h3, hS'⟩ := zoj hS hi; (h A cp h0 h1 h2 h3).run cx e a w hn hS'⟩
theorem Ent.trans {a b c : St} (h : Ent a b) (h' : Ent b c) : Ent a c := ⟨fun cx e x w hS => let ⟨e1, h1⟩ := h.run cx e x w hS; h'.run cx e1 x w h1⟩
theorem zgn {st : St} (t E z : Nat) (h : get t st.s = some (.one (.v (.slice none 0 0)))) : Ent st { st with s := (t, .one (.row st.k)) :: st.s, m := (st.k, .own E z 0 []) :: st.m, k := st.k + 1 } := by
 refine ⟨fun cx e a w hS => ?_⟩
 have hm := hS.mem
 have he := e.eqTo_row st.k (none, 0, 0)
 have hm2 := hm.grow (v := (none, 0, 0)) (E := E) (z := z) (n := 0) (xs := []) none (fun i hi => by cases hi) (w' := w) ⟨rfl, rfl, rfl, Nat.le_refl _, fun _ _ _ => rfl⟩ (World.ownsRow_nil w 0 E z) (fun g hg => by cases hg)
 refine ⟨e.setRow st.k (none, 0, 0), hS.base, hS.size, hS.defers, fun i v hi => ?_, hm2⟩
 rcases zah hi with ⟨rfl, rfl⟩ | ⟨hne, hi⟩
 ·refine ⟨Nat.lt_succ_self _, ?_⟩
  rw [(hS.slots _ _ h).2]
  show _ = some ((e.setRow st.k (none, 0, 0)).rv st.k)
  rw [Env.setRow_self]
  rfl
 ·obtain ⟨h1, h2⟩ := hS.slots i v hi
  exact ⟨SV.lt_mono (Nat.le_succ _) h1, by rw [h2, SV.real_eq he h1]⟩
theorem zfz {st : St} (i E z : Nat) {t : TypeId} {cs : List SA} (cs' : List SA) (hi : get i st.m = some (.cells t cs))
  (hr : ∀ e : Env, e.rv st.k = .slice none 0 0 -> reals e cs' = reals e cs) (hl : (∀ c ∈ cs, c.lt st.k) -> ∀ c ∈ cs', c.lt (st.k + 1)) :
  Ent st { st with m := (i, .cells t cs') :: (st.k, .own E z 0 []) :: st.m, k := st.k + 1 } := by
 refine ⟨fun cx e a w hS => ?_⟩
 have hm := hS.mem
 have hik := hm.sc _ _ hi
 have he := e.eqTo_row st.k (none, 0, 0)
 have hm2 := hm.grow (v := (none, 0, 0)) (E := E) (z := z) (n := 0) (xs := []) none (fun i hi => by cases hi) (w' := w) ⟨rfl, rfl, rfl, Nat.le_refl _, fun _ _ _ => rfl⟩ (World.ownsRow_nil w 0 E z) (fun g hg => by cases hg)
 have hi2 : get i ((st.k, LB.own E z 0 []) :: kill none st.m) = some (.cells t cs) := by
  rw [zbw (Nat.ne_of_lt hik.1)]
  exact hi
 have hb : Blk w ((e.setRow st.k (none, 0, 0)).blk i) t (reals (e.setRow st.k (none, 0, 0)) cs').toArray := by
  rw [hr _ (Env.setRow_self e st.k _)]
  exact hm2.cells _ _ _ hi2
 have hm3 := hm2.set hi2 (hl hik.2) hb (fun _ _ => rfl) rfl rfl rfl rfl
 refine ⟨e.setRow st.k (none, 0, 0), hS.base, hS.size, hS.defers, fun j v hj => ?_, hm3⟩
 obtain ⟨h1, h2⟩ := hS.slots j v hj
 exact ⟨SV.lt_mono (Nat.le_succ _) h1, by rw [h2, SV.real_eq he h1]⟩
theorem zai.cutX {P : Program} {N : Nat} {x y : Code} {K : Exit -> St -> Prop} {st : St} {X : Type} (Ok : X -> Prop) (s : X -> St) (h1 : zai P N x (fun ex st' => match ex with | .normal => ∃ q, Ok q /\ Ent st' (s q) | ex => K ex st') st) (h2 : ∀ q, Ok q -> zai P N y K (s q)) : zai P N (.seq x y) K st := by
 refine zai.seq (h1.mono fun ex st' hK => ?_)
 cases ex with
 | normal =>
  obtain ⟨q, hq, he⟩ := hK
  exact zai.ent he (h2 q hq)
 | _ => exact hK
end Go.Proofs.Sym
end
section
set_option linter.unusedVariables false
set_option linter.unusedSimpArgs false
namespace Go.Proofs.YtmkpiekbpakigaaDoor
open Go.RowKit Go.Proofs.Base Go.Proofs.Sym
structure LX where
 la : Option Addr
 lc : Nat
 ra : Option Addr
 rc : Nat
def lvsC (ls : List Lv) : List Value := ls.flatMap zbh
theorem zpf {ls : List Lv} : ∀ {j : Nat} {l : Lv}, ls[j]? = some l -> ∀ q u, (zbh l)[q]? = some u -> (lvsC ls)[j * 5 + q]? = some u := by
 induction ls with
 | nil => intro j l h; simp at h
 | cons a r ih =>
  intro j l h q u hq
  have e1 : lvsC (a :: r) = zbh a ++ lvsC r := rfl
  rw [e1]
  cases j with
  | zero =>
   simp only [List.getElem?_cons_zero, Option.some.injEq] at h
   subst h
   have hlt := (List.getElem?_eq_some_iff.1 hq).1
   rw [Nat.zero_mul, Nat.zero_add, List.getElem?_append_left hlt]
   exact hq
  | succ j =>
   simp only [List.getElem?_cons_succ] at h
   have e5 : (zbh a).length = 5 := rfl
   rw [List.getElem?_append_right (by rw [e5]; omega), e5, show (j + 1) * 5 + q - 5 = j * 5 + q by omega]
   exact ih h q u hq
theorem zh8 {w : World} {A : Option Addr} {ls : List Lv} (hl : ls.length <= 9223372036854775807) (hs : ∀ a, A = some a -> a.spot = none) (h : SlAt w A (lvsC ls)) : zcz w A ls := by
 refine ⟨hl, fun hp => ?_⟩
 have hat : ∀ {j : Nat} {l : Lv}, ls[j]? = some l -> ∀ q u, (zbh l)[q]? = some u -> ∃ a, A = some a /\ w.cell? (a.add (j * 5 + q)) = some u := fun hj q u hq => h _ _ (zpf hj q u hq)
 obtain ⟨l0, hl0⟩ : ∃ l, ls[0]? = some l := ⟨_, List.getElem?_eq_getElem hp⟩
 obtain ⟨a, ha, _⟩ := hat hl0 0 _ rfl
 have hsp := hs a ha
 obtain ⟨g, o, sp⟩ := a
 cases hsp
 refine ⟨g, o, ha, fun j l hj => ?_⟩
 have hq : ∀ q u, (zbh l)[q]? = some u -> w.cell? ⟨g, o + j * 5 + q, none⟩ = some u := fun q u hq => by
  obtain ⟨a, ha2, hc⟩ := hat hj q u hq
  rw [ha] at ha2
  cases ha2
  rw [zbl, <- Nat.add_assoc] at hc
  exact hc
 exact ⟨hq 0 _ rfl, hq 1 _ rfl, hq 2 _ rfl, hq 3 _ rfl, hq 4 _ rfl⟩
end Go.Proofs.YtmkpiekbpakigaaDoor
end
section
set_option linter.unusedVariables false
set_option linter.unusedSimpArgs false
namespace Go.Proofs.YtmkpiekbpakigaaDoor
open Go.RowKit Go.Proofs.Base Go.Proofs.Sym
structure ND where
 n : Int
 s : ByteArray
 ls : List Lv
 a : Nat
end Go.Proofs.YtmkpiekbpakigaaDoor
end
section
set_option linter.unusedVariables false
set_option linter.unusedSimpArgs false
namespace Go.Proofs.YtmkpiekbpakigaaDoor
open Go.RowKit Go.Proofs.Base Go.Proofs.Sym
structure TX where
 tt : TT
 ra : Option Addr
 rc : Nat
def zap : List SA := [.v (.int .i64 0), .v (.int .i64 0), .v (.string ⟨#[]⟩), .v (.slice none 0 0), .v (.slice none 0 0)]
def ttsC (ts : List TT) : List Value := ts.flatMap TT.cells
theorem zez {w : World} {B : Option Addr} : ∀ (ts : List TT) (j : Nat), (∀ i u, (ttsC ts)[i]? = some u -> ∃ a, B = some a /\ w.cell? (a.add (j * 5 + i)) = some u) -> (∀ t ∈ ts, TTIn w t) -> TTs w B j ts
 | [], _, _, _ => by unfold TTs; trivial
 | t :: r, j, h, hT => by
  have e1 : ttsC (t :: r) = t.cells ++ ttsC r := rfl
  have h5 := t.cells_len
  unfold TTs
  obtain ⟨u0, hu0⟩ : ∃ u, t.cells[0]? = some u := ⟨_, List.getElem?_eq_getElem (by omega)⟩
  obtain ⟨a, ha, _⟩ := h 0 u0 (by rw [e1, List.getElem?_append_left (by omega)]; exact hu0)
  refine ⟨⟨a, ha, fun l u hl => ?_⟩, hT t List.mem_cons_self, zez r (j + 1) (fun i u hi => ?_) (fun t ht => hT t (List.mem_cons_of_mem _ ht))⟩
  ·have hlt := (List.getElem?_eq_some_iff.1 hl).1
   obtain ⟨a2, ha2, hc⟩ := h l u (by rw [e1, List.getElem?_append_left hlt]; exact hl)
   rw [ha] at ha2
   cases ha2
   rw [Addr.add_add]
   exact hc
  ·obtain ⟨a2, ha2, hc⟩ := h (5 + i) u (by rw [e1, List.getElem?_append_right (by omega), h5, Nat.add_sub_cancel_left]; exact hi)
   exact ⟨a2, ha2, by rw [<- hc]; congr 2; omega⟩
structure AX where
 ts : List TT
 left : Int
 l : List Nat
 ra : Option Addr
 rc : Nat
end Go.Proofs.YtmkpiekbpakigaaDoor
end
section
set_option linter.unusedVariables false
set_option linter.unusedSimpArgs false
namespace Go.Proofs.YtmkpiekbpakigaaDoor
open Go.RowKit Go.Proofs.Base Go.Proofs.Sym
structure RB where
 v : Tm
 fx : Int
 cs : List (ByteArray × Tm)
structure DX where
 dd : DD
 ra : Option Addr
 rc : Nat
structure EX where
 ty : TT
 v : TT
 fx : Int
 cts : List (ByteArray × TT)
 left : Int
 l : List Nat
 ra : Option Addr
 rc : Nat
end Go.Proofs.YtmkpiekbpakigaaDoor
end
section
set_option linter.unusedVariables false
set_option linter.unusedSimpArgs false
namespace Go.Proofs.YtmkpiekbpakigaaDoor
open Go.RowKit Go.Proofs.Base Go.Proofs.Sym
structure CX where
 cts : List (ByteArray × TT)
 left : Int
 l : List Nat
 ra : Option Addr
 rc : Nat
end Go.Proofs.YtmkpiekbpakigaaDoor
end
section
set_option linter.unusedVariables false
set_option linter.unusedSimpArgs false
namespace Go.Proofs.YtmkpiekbpakigaaDoor
open Go.RowKit Go.Proofs.Base Go.Proofs.Sym
structure LB' where
 ds : List DD
 A : Option Addr
 c : Nat
structure LX2 where
 ds : List DD
 left : Int
 l : List Nat
 ra : Option Addr
 rc : Nat
structure L1X where
 x : LB'
 left : Int
 r : List Nat
 ra : Option Addr
 rc : Nat
end Go.Proofs.YtmkpiekbpakigaaDoor
end
section
set_option linter.unusedVariables false
set_option linter.unusedSimpArgs false
namespace Go.Proofs.YtmkpiekbpakigaaDoor
open Go.RowKit Go.Proofs.Base Go.Proofs.Sym
def zju : Value := .iface 166 (.agg #[])
def znm : List PanicEntry := [{ v := zju, recovered := false }]
def zqd : Bool -> LRes
 | true => { v := .tup [], m := [], k := 0 }
 | false => { m := [], k := 0, ch := some znm }
theorem zgx (ok : Bool) : zav Tryd.prog 95 [.one (.v (.bool ok))] [] 0 (fun _ => True) (fun _ : Unit => True) (fun _ => zqd ok) := by
 refine zas zac 6 [] Tryd.func95 rfl rfl (by kernel_rfl) rfl _ (leB rfl) Up.true ?_
 refine zaf zac [] _ _ _ ?_
 refine zad (fun h => ?_) (fun h => ?_)
 ·have h : (!ok) = true := h
  obtain rfl : ok = false := by simpa using h
  refine ⟨(), trivial, rfl, ?_⟩
  refine zaa [] rfl rfl rfl rfl (Nat.zero_le _) ⟨⟨_, rfl, rfl⟩, trivial⟩ trivial ⟨⟨Up.true, fun _ _ => trivial⟩, trivial⟩
 ·have h : (!ok) = false := h
  obtain rfl : ok = true := by simpa using h
  refine ⟨_, rfl, (), trivial, rfl, ?_⟩
  refine zaa [] rfl rfl rfl rfl (Nat.zero_le _) ⟨⟨_, rfl, rfl⟩, trivial⟩ trivial ⟨⟨Up.true, fun _ _ => trivial⟩, trivial⟩
theorem zks {b : Bool} (c : Bool) (h : b = c) : zav Tryd.prog 95 [.one (.v (.bool b))] [] 0 (fun _ => True) (fun _ : Unit => True) (fun _ => zqd c) := by
 rw [h]
 exact zgx c
theorem zwx (k a : Int) (ha : 0 <= a) : zbi k a = if (a = 1 /\ (k = 6 \/ k = 7)) \/ (a = 2 /\ k = 8) then 1 else 0 := by
 unfold zbi za7
 split <;> split <;> try rfl
 all_goals (repeat' split at *) <;> omega
theorem zh1 (k a : Int) (ha : 0 <= a) : PCall Tryd.prog 147 [.int .i64 k, .int .i64 a] (fun _ => True) (fun r => r = .int .i64 (zbi k a)) (fun _ _ => True) := by
 rw [zwx k a ha]
 refine zar zac 23 [.tmp 4] Tryd.func147 rfl rfl (by kernel_rfl) rfl _ (leB rfl) Up.true (fun _ => Up.true) ?_
 have key : ∀ (b1 b2 b3 c1 c2 : Bool), decide (a = 1) = b1 -> decide (k = 6) = b2 -> decide (k = 7) = b3 -> decide (a = 2) = c1 -> decide (k = 8) = c2 -> (if (a = 1 /\ (k = 6 \/ k = 7)) \/ (a = 2 /\ k = 8) then (1 : Int) else 0) = if (b1 && (b2 || b3)) || (c1 && c2) then 1 else 0 := by
  intro b1 b2 b3 c1 c2 e1 e2 e3 e4 e5
  subst e1 e2 e3 e4 e5
  simp
 obtain ⟨R, hR⟩ : ∃ R : Int, (if (a = 1 /\ (k = 6 \/ k = 7)) \/ (a = 2 /\ k = 8) then (1 : Int) else 0) = R := ⟨_, rfl⟩
 rw [hR] at key ⊢
 refine zaf zac [] _ _ _ ?_
 refine zad (fun h1 => ?_) (fun h1 => ?_)
 ·have h1 : decide (a = 1) = true := h1
  refine zad (fun h2 => ?_) (fun h2 => ?_)
  ·have h2 : decide (k = 6) = true := h2
   exact ⟨_, rfl, Told.val (by rw [key _ _ _ _ _ h1 h2 rfl rfl rfl]; rfl)⟩
  ·have h2 : decide (k = 6) = false := h2
   refine zad (fun h3 => ?_) (fun h3 => ?_)
   ·have h3 : decide (k = 7) = true := h3
    exact ⟨_, rfl, Told.val (by rw [key _ _ _ _ _ h1 h2 h3 rfl rfl]; rfl)⟩
   ·have h3 : decide (k = 7) = false := h3
    refine zad (fun h4 => ?_) (fun h4 => ?_)
    ·have h4 : decide (a = 2) = true := h4
     refine zad (fun h5 => ?_) (fun h5 => ?_)
     ·have h5 : decide (k = 8) = true := h5
      exact ⟨_, rfl, Told.val (by rw [key _ _ _ _ _ h1 h2 h3 h4 h5]; rfl)⟩
     ·have h5 : decide (k = 8) = false := h5
      exact ⟨_, rfl, Told.val (by rw [key _ _ _ _ _ h1 h2 h3 h4 h5]; rfl)⟩
    ·have h4 : decide (a = 2) = false := h4
     exact ⟨_, rfl, Told.val (by rw [key _ _ _ _ _ h1 h2 h3 h4 rfl]; cases decide (k = 8) <;> rfl)⟩
 ·have h1 : decide (a = 1) = false := h1
  refine zad (fun h4 => ?_) (fun h4 => ?_)
  ·have h4 : decide (a = 2) = true := h4
   refine zad (fun h5 => ?_) (fun h5 => ?_)
   ·have h5 : decide (k = 8) = true := h5
    exact ⟨_, rfl, Told.val (by rw [key _ _ _ _ _ h1 rfl rfl h4 h5]; cases decide (k = 6) <;> cases decide (k = 7) <;> rfl)⟩
   ·have h5 : decide (k = 8) = false := h5
    exact ⟨_, rfl, Told.val (by rw [key _ _ _ _ _ h1 rfl rfl h4 h5]; cases decide (k = 6) <;> cases decide (k = 7) <;> rfl)⟩
  ·have h4 : decide (a = 2) = false := h4
   exact ⟨_, rfl, Told.val (by rw [key _ _ _ _ _ h1 rfl rfl h4 rfl]; cases decide (k = 6) <;> cases decide (k = 7) <;> cases decide (k = 8) <;> rfl)⟩
theorem zb4 (t : TT) : PCall Tryd.prog 86 [t.val] (fun w => ML w /\ TTIn w t) (fun r => r = .bool (zbm 4 1099511627776 t.tm)) (fun _ _ => True) := by
 have hr := zvl t 4 1099511627776
 obtain ⟨b, hb⟩ : ∃ b, zbm 4 1099511627776 t.tm = b := ⟨_, rfl⟩
 rw [hb] at hr ⊢
 obtain ⟨k, n, s, la, lc, ls, aa, ac, us⟩ := t
 refine zar zac 5 [.tmp 2] Tryd.func86 rfl rfl (by kernel_rfl) rfl _ (leB rfl) (ML.up.and (TTIn.upS _)) (fun _ => Up.true) ?_
 refine zaf zac [] _ _ _ ?_
 refine zae hr (fun _ => rfl) (fun w h => h.1) ?_
 rintro r rfl
 exact ⟨_, rfl, Told.val rfl⟩
theorem zr2 (t : TT) : PCall Tryd.prog 82 [t.val] (fun w => ML w /\ TTIn w t) (fun r => r = .bool (!zbm 4 1099511627776 t.tm)) (fun _ _ => True) := by
 have hr := zb4 t
 obtain ⟨b, hb⟩ : ∃ b, zbm 4 1099511627776 t.tm = b := ⟨_, rfl⟩
 rw [hb] at hr ⊢
 obtain ⟨k, n, s, la, lc, ls, aa, ac, us⟩ := t
 refine zar zac 6 [.tmp 2] Tryd.func82 rfl rfl (by kernel_rfl) rfl _ (leB rfl) (ML.up.and (TTIn.upS _)) (fun _ => Up.true) ?_
 refine zaf zac [] _ _ _ ?_
 refine zae hr (fun _ => rfl) (fun w h => h.1) ?_
 rintro r rfl
 exact ⟨_, rfl, Told.val rfl⟩
theorem zh0 (k : Int) : PCall Tryd.prog 118 [.int .i64 k] (fun _ => True) (fun r => r = .bool (decide (k = 6) || decide (k = 7))) (fun _ _ => True) := by
 refine zar zac 9 [.tmp 2] Tryd.func118 rfl rfl (by kernel_rfl) rfl _ (leB rfl) Up.true (fun _ => Up.true) ?_
 refine zaf zac [] _ _ _ ?_
 refine zad (fun h => ?_) (fun h => ?_)
 ·have h : decide (k = 6) = true := h
  exact ⟨_, rfl, Told.val (by rw [h]; rfl)⟩
 ·have h : decide (k = 6) = false := h
  exact ⟨_, rfl, Told.val (by rw [h]; rfl)⟩
def zb7 (o : Option (Option Tm)) (x : TT) : LRes := match o with
 | none => { m := [], k := 0, ch := some znm }
 | some none => { v := .tup [.agg zap, .one (.v (.bool false))], m := [], k := 0 }
 | some (some _) => { v := .tup [.agg (x.cells.map SA.v), .one (.v (.bool true))], m := [], k := 0, F := fun w => TTIn w x }
def ze5 (o : Option (Option Tm)) (x : TT) : Prop := match o with
 | some (some u) => x.tm = u
 | _ => True
def zba (k n : Int) (s : ByteArray) : TT := .mk k n s none 0 [] none 0 []
theorem zeo (w : World) {k n : Int} {s : ByteArray} (hk : I64 k) (hn : I64 n) (hs : s.size <= maxLen) : TTIn w (zba k n s) := by
 unfold zba TTIn
 refine ⟨⟨hk, hn, hs, ⟨by simp, fun h => by simp at h⟩, fun _ => ⟨rfl, rfl⟩, Nat.le_refl _, Nat.zero_le _, fun _ => ⟨rfl, rfl⟩, Nat.le_refl _, Nat.zero_le _⟩, ?_⟩
 unfold TTs
 trivial
def zub (x : Tm) : Bool -> Option (Option Tm)
 | true => some (some x)
 | false => none
def zp0 (o : Option (Option Tm)) : Bool -> Option (Option Tm)
 | true => o
 | false => some none
def zc5 (by' fr : Int) : Tm -> Int -> Option (Option Tm)
 | .mk k n _ _ _, d => zp0 (zub (.mk 1 (IntKind.i64.wrap (n + by')) ⟨#[]⟩ [] []) (decide (fr <= IntKind.i64.wrap (IntKind.i64.wrap (n - d) + by')))) (decide (k = 1) && !decide (IntKind.i64.wrap (n - d) < fr))
def zfk (a1 a2 : Addr) (by' fr : Int) (w : World) : Prop := w.cell? a1 = some (.int .i64 fr) /\ w.cell? a2 = some (.int .i64 by')
theorem zfk.up (a1 a2 : Addr) (by' fr : Int) : Up (zfk a1 a2 by' fr) := (Up.cell _ _).and (Up.cell _ _)
theorem zih (n : Int) : I64 (IntKind.i64.wrap n) := by
 unfold I64
 rw [IntKind.wrap_i64]
 omega
theorem zea (by' fr : Int) : zav Tryd.prog 80 [.one (.v (.int .i64 by')), .one (.v (.int .i64 fr))] [] 0 (fun _ => True) (fun _ : Unit => True) (fun _ => { v := .one (.fn 126 [] [.p 1, .p 0]), m := [(0, .cells 3 [.v (.int .i64 by')]), (1, .cells 3 [.v (.int .i64 fr)])], k := 2 }) := by
 refine zas zac 6 [.tmp 4] Tryd.func80 rfl rfl (by kernel_rfl) rfl _ (leB rfl) Up.true ?_
 refine zaf zac [] _ _ _ ?_
 refine ⟨_, rfl, (), trivial, rfl, ?_⟩
 exact zaa [(0, .blk 0), (1, .blk 1)] rfl rfl rfl rfl (leB rfl) (rs rfl rfl) (rm rfl rfl) ⟨⟨Up.true, fun _ _ => trivial⟩, trivial⟩
theorem zjf (a1 a2 : Addr) (by' fr : Int) (t : TT) (d : Int) : zav Tryd.prog 126 [ttA t, .one (.v (.int .i64 d)), .one (.v (.pointer (some a1))), .one (.v (.pointer (some a2)))] [] 0 (fun w => zfk a1 a2 by' fr w /\ TTIn w t) (ze5 (zc5 by' fr t.tm d)) (zb7 (zc5 by' fr t.tm d)) := by
 obtain ⟨k, n, s, la, lc, ls, aa, ac, us⟩ := t
 obtain ⟨q, hq⟩ : ∃ q, decide (fr <= IntKind.i64.wrap (IntKind.i64.wrap (n - d) + by')) = q := ⟨_, rfl⟩
 have hspec : ∀ b1 b2, decide (k = 1) = b1 -> decide (IntKind.i64.wrap (n - d) < fr) = b2 -> zc5 by' fr (TT.mk k n s la lc ls aa ac us).tm d = zp0 (zub (.mk 1 (IntKind.i64.wrap (n + by')) ⟨#[]⟩ [] []) q) (b1 && !b2) := by
  intro b1 b2 e1 e2
  rw [zbs, zc5, e1, e2, hq]
 obtain ⟨R, hR⟩ : ∃ R, zc5 by' fr (TT.mk k n s la lc ls aa ac us).tm d = R := ⟨_, rfl⟩
 rw [hR] at hspec ⊢
 have hn9 := zks q hq
 clear hR
 refine zas zac 34 [.cell 6 41, .tmp 7] Tryd.func126 rfl rfl (by kernel_rfl) rfl _ (leB rfl) ((zfk.up _ _ _ _).and (TTIn.upS _)) ?_
 refine zaf zac [3] _ _ _ ?_
 refine zad (fun h => ?_) (fun h => ?_)
 ·have h1 : decide (k = 1) = false := by
   have h : (!decide (k = 1)) = true := h
   simpa using h
  have e := hspec _ _ h1 rfl
  subst e
  refine ⟨_, rfl, zba 0 0 ⟨#[]⟩, trivial, rfl, ?_⟩
  exact zaa [] rfl rfl rfl rfl (Nat.zero_le _) ⟨⟨_, rfl, rfl⟩, trivial⟩ trivial ⟨⟨Up.true, fun _ _ => trivial⟩, trivial⟩
 have h1 : decide (k = 1) = true := by
  have h : (!decide (k = 1)) = false := h
  simpa using h
 refine ⟨{ v := .int .i64 fr }, fun w h => ⟨_, rfl, h.1.1.1⟩, ?_⟩
 refine zad (fun h => ?_) (fun h => ?_)
 ·have h2 : decide (IntKind.i64.wrap (n - d) < fr) = true := h
  have e := hspec _ _ h1 h2
  subst e
  refine ⟨_, rfl, zba 0 0 ⟨#[]⟩, trivial, rfl, ?_⟩
  exact zaa [] rfl rfl rfl rfl (Nat.zero_le _) ⟨⟨_, rfl, rfl⟩, trivial⟩ trivial ⟨⟨Up.true, fun _ _ => trivial⟩, trivial⟩
 have h2 : decide (IntKind.i64.wrap (n - d) < fr) = false := h
 have e := hspec _ _ h1 h2
 subst e
 refine zaf zac [4] _ _ _ ?_
 refine ⟨{ v := .int .i64 by' }, fun w h => ⟨_, rfl, h.1.1.2⟩, ?_⟩
 refine ⟨{ v := .int .i64 fr }, fun w h => ⟨_, rfl, h.1.1.1⟩, ?_⟩
 refine zab [] hn9 rfl trivial rfl rfl (fun _ _ => trivial) (fun _ _ => ?_) (fun _ _ => ?_)
 ·cases q <;> exact ⟨rfl, rfl⟩
 cases q with
 | false =>
  exact ⟨zba 0 0 ⟨#[]⟩, trivial, rfl, zaa [] rfl rfl rfl rfl (Nat.zero_le _) ⟨⟨_, rfl, rfl⟩, trivial⟩ trivial ⟨⟨Up.true, fun _ _ => trivial⟩, trivial⟩⟩
 | true =>
  refine zaf zac [] _ _ _ ?_
  refine ⟨{ v := .int .i64 by' }, fun w h => ⟨_, rfl, h.2.1.1.2⟩, ?_⟩
  refine ⟨_, rfl, zba 1 (IntKind.i64.wrap (n + by')) ⟨#[]⟩, ?_, rfl, ?_⟩
  ·show (zba 1 (IntKind.i64.wrap (n + by')) ⟨#[]⟩).tm = _
   unfold zba
   rw [zbs]
   rfl
  exact zaa [] rfl rfl rfl rfl (Nat.zero_le _) ⟨⟨_, rfl, rfl⟩, trivial⟩ trivial ⟨⟨TTIn.upS _, fun w h => zeo w (by unfold I64; omega) (zih _) (by decide)⟩, trivial⟩
end Go.Proofs.YtmkpiekbpakigaaDoor
end
section
set_option linter.unusedVariables false
set_option linter.unusedSimpArgs false
namespace Go.Proofs.Sym
open Go.RowKit Go.Proofs.Base Go.Proofs.Mono
theorem zai.told {P : Program} {N : Nat} {c : Code} {K : Exit -> St -> Prop} {st : St} {p : Prop} (hp : ∀ w, AllF st.f w -> p) (h : p -> zai P N c K st) : zai P N c K st :=
 ⟨fun cx e a w hn hS => (h (hp w hS.mem.fact)).run cx e a w hn hS⟩
structure zbo (P : Program) (N : Nat) (ops : Array Oper) (K : Exit -> St -> Prop) (rest : List Oper) (st : St) : Prop where
 run : ∀ (cx : Cx) (e : Env) (a : Act) (w : World), cx.n = N -> Sat cx e st a w -> wpList P ops (Post cx K) rest a w
section
variable {P : Program} {T : Tab} {N : Nat} {ops : Array Oper} {K : Exit -> St -> Prop}
theorem zbo.ent {rest : List Oper} {st st' : St} (he : Ent st st') (h : zbo P N ops K rest st') : zbo P N ops K rest st :=
 ⟨fun cx e a w hn hS => let ⟨e', hS'⟩ := he.run cx e a w hS; h.run cx e' a w hn hS'⟩
theorem zbo.done {st : St} (h : K .normal st) : zbo P N ops K [] st := ⟨fun cx e a w hn hS => ⟨e, st, h, hS⟩⟩
theorem zjp {cx : Cx} (hT : T.Ok P) (rest : List Oper) (K0 : St -> Prop) (hK0 : ∀ st, K0 st -> zbo P cx.n ops K rest st) : ∀ (l : List Oper) (e : Env) (st : St) (a : Act) (w : World), Sat cx e st a w ->
  sops P T cx.n ops K0 (fun ch st => K (.panic ch) st) l st -> wpList P ops (Post cx K) (l ++ rest) a w
 | [], e, st, a, w, hS, h => (hK0 _ h).run cx e a w rfl hS
 | o :: l, e, st, a, w, hS, h => by
  have hrec : ∀ e' st' a' w', sops P T cx.n ops K0 (fun ch st => K (.panic ch) st) l st' -> Sat cx e' st' a' w' -> wpList P ops (Post cx K) (l ++ rest) a' w' := fun e' st' a' w' h' hS' => zjp hT rest K0 hK0 l e' st' a' w' hS' h'
  refine wpList_step fun next hnext => ?_
  unfold sops at h
  split at h
  ·rename_i hg
   rw [if_pos (zaz hg _)]
   exact zhp (K := K) hT hS (fun _ _ _ h => h) (fun e' st' a' w' h1 h2 => hnext _ _ (hrec e' st' a' w' h1 h2)) h
  ·rename_i g want hg
   split at h
   ·exact h.elim
   ·rename_i t ht
    split at h
    ·rename_i b hb
     have hy := zcg ht hS hb
     have hsame : ∀ b', b = b' -> Sat cx e { st with s := (t, .one (.v (.bool b'))) :: st.s } a w := fun b' hbb => zdi hS hb (by rw [hbb]) trivial
     have hskip : ∀ b', b = b' -> sops P T cx.n ops K0 (fun ch st => K (.panic ch) st) l (({ st with s := (t, .one (.v (.bool b'))) :: st.s } : St).put cx.n o.dst (.one (.v undef))) -> next (a.put o.dst undef) w := by
      intro b' hbb h'
      exact hnext _ _ (hrec _ _ _ _ h' (zbq (v := .one (.v undef)) (hsame b' hbb) (Env.eqTo.refl _ _) (Nat.le_refl _) rfl rfl trivial hS.mem o.dst))
     cases want <;> cases b
     ·rw [if_pos (by simp [Region.wanted, hg, hy])]
      exact zhp (K := K) hT (hsame _ rfl) (fun _ _ _ h => h) (fun e' st' a' w' h1 h2 => hnext _ _ (hrec e' st' a' w' h1 h2)) h
     ·rw [if_neg (by simp [Region.wanted, hg, hy])]
      exact hskip _ rfl h
     ·rw [if_neg (by simp [Region.wanted, hg, hy])]
      exact hskip _ rfl h
     ·rw [if_pos (by simp [Region.wanted, hg, hy])]
      exact zhp (K := K) hT (hsame _ rfl) (fun _ _ _ h => h) (fun e' st' a' w' h1 h2 => hnext _ _ (hrec e' st' a' w' h1 h2)) h
    ·rename_i vs hb
     have hy : yielded ops a.tmps g = none := by
      unfold yielded
      rw [ht]
      simp only [Option.bind_some]
      rw [(hS.slots _ _ hb).2]
      rfl
     rw [if_neg (by simp [Region.wanted, hg, hy])]
     exact hnext _ _ (hrec _ _ _ _ h (zbq (v := .one (.v undef)) hS (Env.eqTo.refl _ _) (Nat.le_refl _) rfl rfl trivial hS.mem o.dst))
    ·exact h.elim
theorem zbo.part (hT : T.Ok P) (n : Nat) {rest : List Oper} {st : St} (h : sops P T N ops (fun st' => zbo P N ops K (rest.drop n) st') (fun ch st => K (.panic ch) st) (rest.take n) st) : zbo P N ops K rest st := by
 refine ⟨fun cx e a w hn hS => ?_⟩
 subst hn
 have := zjp hT (rest.drop n) _ (fun _ h => h) (rest.take n) e st a w hS h
 rwa [List.take_append_drop] at this
theorem zbo.step (hT : T.Ok P) (n : Nat) {X : Type} (Ok : X -> Prop) (s : X -> St) {rest : List Oper} {st : St} (h : sops P T N ops (fun st' => ∃ x, Ok x /\ Ent st' (s x)) (fun ch st => K (.panic ch) st) (rest.take n) st) (hk : ∀ x, Ok x -> zbo P N ops K (rest.drop n) (s x)) : zbo P N ops K rest st := by
 refine ⟨fun cx e a w hn hS => ?_⟩
 subst hn
 have := zjp hT (rest.drop n) _ (fun st' (h : ∃ x, Ok x /\ Ent st' (s x)) => let ⟨x, hx, he⟩ := h; zbo.ent he (hk x hx)) (rest.take n) e st a w hS h
 rwa [List.take_append_drop] at this
theorem zai.parts {id : Nat} {st : St} (h : zbo P N ops K ops.toList st) : zai P N (.region id ops false) K st :=
 ⟨fun cx e a w hn hS => wp_region_list (h.run cx e a w hn hS)⟩
end
end Go.Proofs.Sym
end
section
set_option linter.unusedVariables false
set_option linter.unusedSimpArgs false
namespace Go.Proofs.YtmkpiekbpakigaaDoor
open Go.RowKit Go.Proofs.Base Go.Proofs.Sym
theorem zhg : ∀ (ls : List Lv), (lvsC ls).length = ls.length * 5
 | [] => rfl
 | l :: r => by
  show (zbh l ++ lvsC r).length = _
  rw [List.length_append, zhg r, List.length_cons, show (zbh l).length = 5 from rfl]
  omega
def zvw (la : Option Addr) (lc : Nat) (ls : List Lv) (w : World) : Prop := zcz w la ls /\ (la = none -> ls.length = 0 /\ lc = 0)
theorem zvw.up (la : Option Addr) (lc : Nat) (ls : List Lv) : Up (zvw la lc ls) := (zcz.up _ _).and (Up.pure _)
theorem zww {w : World} {la : Option Addr} {ls : List Lv} (h : zcz w la ls) : SlAt w la (lvsC ls) := by
 intro j u hj
 have hlen : ∀ l : Lv, (zbh l).length = 5 := fun _ => rfl
 have hj2 : j < (lvsC ls).length := (List.getElem?_eq_some_iff.1 hj).1
 have hl : (lvsC ls).length = ls.length * 5 := zhg ls
 have hq : j / 5 < ls.length := by omega
 obtain ⟨l, hl2⟩ : ∃ l, ls[j / 5]? = some l := ⟨_, List.getElem?_eq_getElem hq⟩
 obtain ⟨a, ha, hc⟩ := zck h hl2
 have hr : j % 5 < 5 := Nat.mod_lt _ (by decide)
 obtain ⟨v, hv⟩ : ∃ v, (zbh l)[j % 5]? = some v := ⟨_, List.getElem?_eq_getElem (by rw [hlen]; exact hr)⟩
 have h2 := zpf hl2 (j % 5) v hv
 rw [show j / 5 * 5 + j % 5 = j by omega] at h2
 rw [h2] at hj
 cases hj
 refine ⟨a, ha, ?_⟩
 have h3 := hc _ _ hv
 rw [Addr.add_add, show j / 5 * 5 + j % 5 = j by omega] at h3
 exact h3
theorem zxc (ls : List Lv) : ∀ u ∈ lvsC ls, u.oneCell' = true := by
 intro u hu
 obtain ⟨l, _, h⟩ := List.mem_flatMap.1 hu
 exact zca l u h
theorem zey (la : Option Addr) (lc : Nat) (ls : List Lv) (hls : ls.length * 40 <= 140737488351232) : zav Tryd.prog 131 [.one (.v (.slice la ls.length lc))] [] 0 (zvw la lc ls) (fun _ : Unit => True) (fun _ => { v := .one (.row 0), m := [(0, .own 24 5 ls.length (lvsC ls))], k := 1 }) := by
 have hl : ls.length <= 3518437208781 := by omega
 refine zas zac 8 [.tmp 2] Tryd.func131 rfl rfl (by kernel_rfl) rfl _ (leB rfl) (zvw.up _ _ _) ?_
 refine zai.told (p := la = none -> ls.length = 0 /\ lc = 0) (fun w h => h.1.2) (fun hn => ?_)
 refine zaf zac [3] _ _ _ ?_
 refine zad (fun h => ?_) (fun h => ?_)
 ·have h : la.isNone = true := h
  cases la with
  | some a => cases h
  | none =>
  obtain ⟨h0, _⟩ := hn rfl
  have hls0 : ls = [] := List.eq_nil_of_length_eq_zero h0
  subst hls0
  refine ⟨_, rfl, (), trivial, rfl, ?_⟩
  exact (zgn 0 24 5 rfl).trans (zaa [(0, .own 0)] rfl rfl rfl rfl (leB rfl) ⟨⟨_, rfl, rfl⟩, trivial⟩ ⟨⟨_, _, rfl, rfl, rfl⟩, trivial⟩ ⟨⟨Up.true, fun _ _ => trivial⟩, trivial⟩)
 ·have h : la.isNone = false := h
  cases la with
  | none => cases h
  | some a0 =>
  refine zaf zac [] _ _ _ ?_
  refine ⟨{ cs := lvsC ls }, ⟨⟨zhg ls, zxc ls, ?_, fun w h => zww h.1.1⟩, by decide, .inr rfl, ?_, ?_⟩, ?_⟩
  ·intro hA
   cases hA
  ·show 0 + ls.length <= maxLen
   simp only [maxLen]; omega
  ·show (0 + ls.length) * 40 <= _
   omega
  refine ⟨_, rfl, (), trivial, rfl, ?_⟩
  exact zaa [(0, .own 1)] rfl rfl rfl rfl (leB rfl) ⟨⟨_, rfl, rfl⟩, trivial⟩ ⟨⟨_, _, rfl, by simp, rfl⟩, trivial⟩ ⟨⟨Up.true, fun _ _ => trivial⟩, trivial⟩
mutual
def tmB : Tm -> Prop
 | .mk _ _ _ ls us => ls.length * 40 <= 140737488351232 /\ us.length * 80 <= 140737488351232 /\ tmBs us
def tmBs : List Tm -> Prop
 | [] => True
 | t :: r => tmB t /\ tmBs r
end
theorem zg0 {t : Tm} : ∀ {us : List Tm}, tmBs us -> t ∈ us -> tmB t
 | u :: r, h, hm => by
  unfold tmBs at h
  rcases List.mem_cons.1 hm with rfl | hm
  ·exact h.1
  ·exact zg0 h.2 hm
def zsn (x : Tm) (l : Int) : Bool -> Option (Tm × Int)
 | true => some (x, l)
 | false => none
def zm7 (k n : Int) (s : ByteArray) (ls : List Lv) : Bool -> Option (List Tm × Int) -> Option (Tm × Int)
 | true, some (xs, l) => some (.mk k n s ls xs, l)
 | _, _ => none
mutual
def zdj (φ : Tm -> Int -> Option (Option Tm)) : Tm -> Int -> Int -> Option (Tm × Int)
 | .mk k n s ls us, d, l => match φ (.mk k n s ls us) d with
  | none => none
  | some (some x) => zsn x (IntKind.i64.wrap (l - zcb x)) (decide (0 <= IntKind.i64.wrap (l - zcb x)))
  | some none => zm7 k n s ls (decide (0 <= IntKind.i64.wrap (l - IntKind.i64.wrap (1 + (ls.length : Int))))) (zc3 φ k 0 us d (IntKind.i64.wrap (l - IntKind.i64.wrap (1 + (ls.length : Int)))))
def zc3 (φ : Tm -> Int -> Option (Option Tm)) (k : Int) : Int -> List Tm -> Int -> Int -> Option (List Tm × Int)
 | _, [], _, l => some ([], l)
 | j, u :: r, d, l => match zdj φ u (IntKind.i64.wrap (d + zbi k j)) l with
  | none => none
  | some (x, l1) => match zc3 φ k (j + 1) r d l1 with
   | none => none
   | some (xs, l2) => some (x :: xs, l2)
end
def zsf (o : Option (Tm × Int)) (x : TT) : LRes := match o with
 | none => { m := [], k := 1, ch := some znm }
 | some (_, l) => { v := ttA x, m := [(0, .cells 3 [.v (.int .i64 l)])], k := 1, F := fun w => TTIn w x }
def zy0 (o : Option (Tm × Int)) (x : TT) : Prop := match o with
 | some (u, _) => x.tm = u
 | none => True
def zja (ys : List Tm) : Option (List Tm × Int) -> Option (List Tm × Int)
 | none => none
 | some (xs, l) => some (ys ++ xs, l)
theorem zi9 (φ : Tm -> Int -> Option (Option Tm)) (k j : Int) (u : Tm) (r : List Tm) (d l : Int) (ys : List Tm) :
  zja ys (zc3 φ k j (u :: r) d l) = match zdj φ u (IntKind.i64.wrap (d + zbi k j)) l with
  | none => none
  | some (x, l1) => zja (ys ++ [x]) (zc3 φ k (j + 1) r d l1) := by
 rw [zc3]
 cases zdj φ u (IntKind.i64.wrap (d + zbi k j)) l with
 | none => rfl
 | some q =>
  obtain ⟨x, l1⟩ := q
  simp only
  cases zc3 φ k (j + 1) r d l1 with
  | none => rfl
  | some q2 =>
   obtain ⟨xs, l2⟩ := q2
   simp [zja]
end Go.Proofs.YtmkpiekbpakigaaDoor
end
section
set_option linter.unusedVariables false
set_option linter.unusedSimpArgs false
namespace Go.Proofs.YtmkpiekbpakigaaDoor
open Go.RowKit Go.Proofs.Base Go.Proofs.Sym
def wG (pre : World -> Prop) (t : TT) (xs : List TT) (w : World) : Prop := (pre w /\ TTIn w t) /\ ∀ x ∈ xs, TTIn w x
theorem wG.up {pre : World -> Prop} (hpre : Up pre) (t : TT) (xs : List TT) : Up (wG pre t xs) := (hpre.and (TTIn.upS _)).and fun w w' h hh x hx => TTIn.up h x (hh x hx)
set_option maxHeartbeats 8000000 in
theorem zpq (f : FuncId) (c1 c2 : Value) (pre : World -> Prop) (hpre : Up pre) (φ : Tm -> Int -> Option (Option Tm))
  (hφ : ∀ (t : TT) (d : Int), tmB t.tm -> zav Tryd.prog f [ttA t, .one (.v (.int .i64 d)), .one (.v c1), .one (.v c2)] [] 0 (fun w => pre w /\ TTIn w t) (ze5 (φ t.tm d)) (zb7 (φ t.tm d))) (t : TT) (d l : Int) (hB : tmB t.tm) :
  zav Tryd.prog 125 [ttA t, .one (.v (.int .i64 d)), .one (.p 0 0), .one (.fn f [] [.v c1, .v c2])] [(0, .cells 3 [.v (.int .i64 l)])] 1 (fun w => pre w /\ TTIn w t) (zy0 (zdj φ t.tm d l)) (zsf (zdj φ t.tm d l)) := by
 induction hsz : SizeOf.sizeOf t using Nat.strongRecOn generalizing t d l with
 | _ z ih =>
 have hrule := hφ t d hB
 obtain ⟨k, n, s, la, lc, ls, aa, ac, us⟩ := t
 subst hsz
 rw [zbs] at hrule hB ⊢
 have hB2 := hB
 unfold tmB at hB2
 obtain ⟨hB1, hBu, hBs⟩ := hB2
 rw [List.length_map] at hBu
 have hus : us.length <= 1759218604390 := by omega
 have hc131 := zey la lc ls hB1
 have hspec := show zdj φ (.mk k n s ls (us.map TT.tm)) d l = _ by rw [zdj]
 obtain ⟨o, ho⟩ : ∃ o, φ (.mk k n s ls (us.map TT.tm)) d = o := ⟨_, rfl⟩
 rw [ho] at hrule hspec
 obtain ⟨R, hR⟩ : ∃ R, zdj φ (.mk k n s ls (us.map TT.tm)) d l = R := ⟨_, rfl⟩
 rw [hR] at hspec ⊢
 clear hR ho
 obtain ⟨q6, hq6⟩ : ∃ q, decide (0 <= IntKind.i64.wrap (l - IntKind.i64.wrap (1 + (ls.length : Int)))) = q := ⟨_, rfl⟩
 have hn6 := zks q6 hq6
 rw [hq6] at hspec
 obtain ⟨W0, hW0⟩ : ∃ W, zc3 φ k 0 (us.map TT.tm) d (IntKind.i64.wrap (l - IntKind.i64.wrap (1 + (ls.length : Int)))) = W := ⟨_, rfl⟩
 rw [hW0] at hspec
 refine zas zac 80 [.cell 8 41] Tryd.func125 rfl rfl (by kernel_rfl) rfl _ (leB rfl) (hpre.and (TTIn.upS _)) ?_
 cases o with
 | none =>
  have hspec : R = none := hspec
  subst hspec
  refine zaf zac [6] _ _ _ ?_
  refine zab [] hrule rfl trivial rfl rfl (fun w h => h.1) (fun _ _ => ⟨rfl, rfl⟩) (fun _ _ => ?_)
  exact ⟨zba 0 0 ⟨#[]⟩, trivial, rfl, zaa [(0, .blk 0)] rfl rfl rfl rfl (leB rfl) (rs rfl rfl) trivial ⟨⟨Up.true, fun _ _ => trivial⟩, trivial⟩⟩
 | some o =>
 cases o with
 | some x0 =>
  obtain ⟨q3, hq3⟩ : ∃ q, decide (0 <= IntKind.i64.wrap (l - zcb x0)) = q := ⟨_, rfl⟩
  have hn3 := zks q3 hq3
  have hspec : R = zsn x0 (IntKind.i64.wrap (l - zcb x0)) (decide (0 <= IntKind.i64.wrap (l - zcb x0))) := hspec
  rw [hq3] at hspec
  refine zaf zac [6] _ _ _ ?_
  refine zab [] hrule rfl trivial rfl rfl (fun w h => h.1) (fun x _ => ?_) (fun x hx => ?_)
  ·obtain ⟨xk, xn, xnm, xla, xlc, xls, xaa, xac, xus⟩ := x
   exact ⟨rfl, rfl⟩
  have hnx := zk4 x
  have hx : x.tm = x0 := hx
  rw [hx] at hnx
  obtain ⟨xk, xn, xnm, xla, xlc, xls, xaa, xac, xus⟩ := x
  refine .inl ⟨7, [0, 1, 3, 0, 8, 31, 63, 127], fun vs i => match i with
   | 4 => { pre := fun w => TTIn w (TT.mk xk xn xnm xla xlc xls xaa xac xus), R := fun u => u = .int .i64 (zcb x0), nf := fun _ => .int .i64 (zcb x0) }
   | _ => {}, by kernel_rfl, rfl, by kernel_rfl, by kernel_rfl, by kernel_rfl, by decide, fun vals => ?_⟩
  refine ⟨fun _ => ⟨hnx, fun w h => h.1, fun _ h => h⟩, ?_⟩
  intro _
  cases q3 with
  | false =>
   have hspec : R = none := hspec
   subst hspec
   refine zab [] hn3 rfl trivial rfl rfl (fun _ _ => trivial) (fun _ _ => ⟨rfl, rfl⟩) (fun _ _ => ?_)
   exact ⟨zba 0 0 ⟨#[]⟩, trivial, rfl, zaa [(0, .blk 0)] rfl rfl rfl rfl (leB rfl) (rs rfl rfl) trivial ⟨⟨Up.true, fun _ _ => trivial⟩, trivial⟩⟩
  | true =>
   have hspec : R = some (x0, IntKind.i64.wrap (l - zcb x0)) := hspec
   subst hspec
   refine zab [] hn3 rfl trivial rfl rfl (fun _ _ => trivial) (fun _ _ => ⟨rfl, rfl⟩) (fun _ _ => ?_)
   refine ⟨_, rfl, TT.mk xk xn xnm xla xlc xls xaa xac xus, hx, rfl, ?_⟩
   exact zaa [(0, .blk 0)] rfl rfl rfl rfl (leB rfl) (rs rfl rfl) (rm rfl rfl) ⟨⟨TTIn.upS _, fun w h => h.2.2.1⟩, trivial⟩
 | none =>
 have hspec : R = zm7 k n s ls q6 W0 := hspec
 refine zaf zac [6] _ _ _ ?_
 refine zab [] hrule rfl trivial rfl rfl (fun w h => h.1) (fun _ _ => ⟨rfl, rfl⟩) (fun _ _ => ?_)
 refine zai.ent (st' := { s := [(1, .one (.v (.int .i64 d))), (2, .one (.p 0 0)), (3, .one (.fn f [] [.v c1, .v c2])), (4, .one (.p 1 0)), (8, .one (.p 2 0))], m := [(0, .cells 3 [.v (.int .i64 l)]), (1, .cells 41 ((TT.mk k n s la lc ls aa ac us).cells.map SA.v)), (2, .cells 41 zap)], k := 3, f := [fun w => pre w /\ TTIn w (TT.mk k n s la lc ls aa ac us)], b := 1 }) (zaa [(0, .blk 0), (1, .blk 1), (2, .blk 2)] rfl rfl rfl rfl (leB rfl) (rs rfl rfl) (rm rfl rfl) ⟨⟨(hpre.and (TTIn.upS _)), fun w h => h.2.1⟩, trivial⟩) ?_
 refine zaf zac [8] _ _ _ ?_
 refine .inl ⟨9, [0, 1, 3, 0, 8, 24, 56, 127, 255, 511], fun vs i => {}, by kernel_rfl, rfl, by kernel_rfl, by kernel_rfl, by kernel_rfl, by decide, fun vals => ?_⟩
 intro _
 cases q6 with
 | false =>
  have hspec : R = none := hspec
  subst hspec
  refine zab [] hn6 rfl trivial rfl rfl (fun _ _ => trivial) (fun _ _ => ⟨rfl, rfl⟩) (fun _ _ => ?_)
  exact ⟨zba 0 0 ⟨#[]⟩, trivial, rfl, zaa [(0, .blk 0)] rfl rfl rfl rfl (leB rfl) (rs rfl rfl) trivial ⟨⟨Up.true, fun _ _ => trivial⟩, trivial⟩⟩
 | true =>
 have hWR : ∀ w, w = W0 -> R = zm7 k n s ls true w := fun w e => by
  rw [e]
  exact hspec
 clear hspec
 refine zab [] hn6 rfl trivial rfl rfl (fun _ _ => trivial) (fun _ _ => ⟨rfl, rfl⟩) (fun _ _ => ?_)
 obtain ⟨l6, hl6⟩ : ∃ x, IntKind.i64.wrap (l - IntKind.i64.wrap (1 + (ls.length : Int))) = x := ⟨_, rfl⟩
 rw [hl6] at hW0
 refine zai.ent (st' := { s := [(1, .one (.v (.int .i64 d))), (2, .one (.p 0 0)), (3, .one (.fn f [] [.v c1, .v c2])), (4, .one (.p 1 0)), (8, .one (.p 2 0))], m := [(0, .cells 3 [.v (.int .i64 l6)]), (1, .cells 41 ((TT.mk k n s la lc ls aa ac us).cells.map SA.v)), (2, .cells 41 zap)], k := 3, f := [fun w => pre w /\ TTIn w (TT.mk k n s la lc ls aa ac us)], b := 1 }) (zaa [(0, .blk 0), (1, .blk 1), (2, .blk 2)] rfl rfl rfl rfl (leB rfl) ⟨⟨_, rfl, rfl⟩, ⟨_, rfl, rfl⟩, ⟨_, rfl, rfl⟩, ⟨_, rfl, rfl⟩, ⟨_, rfl, rfl⟩, trivial⟩ ⟨⟨_, rfl, by rw [hl6]; rfl⟩, ⟨_, rfl, rfl⟩, ⟨_, rfl, rfl⟩, trivial⟩ ⟨⟨(hpre.and (TTIn.upS _)), fun w h => h.2.1⟩, trivial⟩) ?_
 clear hl6 hq6 hn6 hrule
 refine zaf zac [10] _ _ _ ?_
 refine zab [] hc131 rfl trivial rfl rfl (fun w h => ⟨h.1.2.node.hls, h.1.2.node.hla⟩) (fun _ _ => ⟨rfl, rfl⟩) (fun _ _ => ?_)
 refine zai.ent (st' := { s := [(1, .one (.v (.int .i64 d))), (2, .one (.p 0 0)), (3, .one (.fn f [] [.v c1, .v c2])), (4, .one (.p 1 0)), (8, .one (.p 2 0)), (11, .one (.p 3 0))], m := [(0, .cells 3 [.v (.int .i64 l6)]), (1, .cells 41 ((TT.mk k n s la lc ls aa ac us).cells.map SA.v)), (2, .cells 41 zap), (3, .cells 41 [.v (.int .i64 k), .v (.int .i64 n), .v (.string s), .row 4, .v (.slice none 0 0)]), (4, .own 24 5 ls.length (lvsC ls))], k := 5, f := [fun w => pre w /\ TTIn w (TT.mk k n s la lc ls aa ac us)], b := 1 }) (zaa [(0, .blk 0), (1, .blk 1), (2, .blk 2), (3, .blk 3), (4, .own 4)] rfl rfl rfl rfl (leB rfl) ⟨⟨_, rfl, rfl⟩, ⟨_, rfl, rfl⟩, ⟨_, rfl, rfl⟩, ⟨_, rfl, rfl⟩, ⟨_, rfl, rfl⟩, ⟨_, rfl, rfl⟩, trivial⟩ ⟨⟨_, rfl, rfl⟩, ⟨_, rfl, rfl⟩, ⟨_, rfl, rfl⟩, ⟨_, rfl, rfl⟩, ⟨_, _, rfl, rfl, rfl⟩, trivial⟩ ⟨⟨(hpre.and (TTIn.upS _)), fun w h => h.2.1⟩, trivial⟩) ?_
 refine zai.ent (zfz 3 41 5 ([.v (.int .i64 k), .v (.int .i64 n), .v (.string s), .row 4, .row 5]) rfl (fun e he => ?_) (fun h => ?_)) ?_
 ·show _ :: _ :: _ :: _ :: [e.rv 5] = _
  rw [show e.rv 5 = Value.slice none 0 0 from he]
  rfl
 ·intro c hc
  simp only [List.mem_cons, List.not_mem_nil, or_false] at hc
  rcases hc with rfl | rfl | rfl | rfl | rfl
  ·rfl
  ·rfl
  ·rfl
  ·exact Nat.lt_succ_of_lt (Nat.lt_succ_self _)
  ·exact Nat.lt_succ_self _
 refine zaf zac [12, 15] _ _ _ ?_
 refine ⟨⟨List TT × Int, fun q => q.1.length <= us.length /\ zja (q.1.map TT.tm) (zc3 φ k (q.1.length : Int) ((us.map TT.tm).drop q.1.length) d q.2) = W0, fun q => { s := [(1, .one (.v (.int .i64 d))), (2, .one (.p 0 0)), (3, .one (.fn f [] [.v c1, .v c2])), (4, .one (.p 1 0)), (8, .one (.p 2 0)), (11, .one (.p 3 0)), (56, .one (.v (.slice aa us.length ac))), (57, .one (.v (.int .i64 (us.length : Int)))), (58, .one (.v (.int .i64 (q.1.length : Int))))], m := [(0, .cells 3 [.v (.int .i64 q.2)]), (1, .cells 41 ((TT.mk k n s la lc ls aa ac us).cells.map SA.v)), (2, .cells 41 zap), (3, .cells 41 [.v (.int .i64 k), .v (.int .i64 n), .v (.string s), .row 4, .row 5]), (4, .own 24 5 ls.length (lvsC ls)), (5, .own 41 5 q.1.length (ttsC q.1))], k := 6, f := [wG pre (TT.mk k n s la lc ls aa ac us) q.1], b := 1 }, fun q => us.length - q.1.length, ⟨([], l6), ⟨Nat.zero_le _, ?_⟩, zaa [(0, .blk 0), (1, .blk 1), (2, .blk 2), (3, .blk 3), (4, .own 4), (5, .own 5)] rfl rfl rfl rfl (leB rfl) ⟨⟨_, rfl, rfl⟩, ⟨_, rfl, rfl⟩, ⟨_, rfl, rfl⟩, ⟨_, rfl, rfl⟩, ⟨_, rfl, rfl⟩, ⟨_, rfl, rfl⟩, ⟨_, rfl, rfl⟩, ⟨_, rfl, rfl⟩, ⟨_, rfl, rfl⟩, trivial⟩ ⟨⟨_, rfl, rfl⟩, ⟨_, rfl, rfl⟩, ⟨_, rfl, rfl⟩, ⟨_, rfl, rfl⟩, ⟨_, _, rfl, rfl, rfl⟩, ⟨_, _, rfl, rfl, rfl⟩, trivial⟩ ⟨⟨wG.up hpre _ _, fun w h => ⟨h.1, fun x hx => by cases hx⟩⟩, trivial⟩⟩, ?_⟩⟩
 ·show zja [] (zc3 φ k 0 (us.map TT.tm) d l6) = W0
  rw [hW0]
  cases W0 with
  | none => rfl
  | some q => rfl
 rintro ⟨xs, l1⟩ ⟨hj, hW⟩
 have hj : xs.length <= us.length := hj
 have hW : zja (xs.map TT.tm) (zc3 φ k (xs.length : Int) ((us.map TT.tm).drop xs.length) d l1) = W0 := hW
 clear hW0
 refine zad (fun hlt0 => ?_) (fun hge0 => ?_)
 rotate_left
 ·have hge : us.length = xs.length := by
   have h : decide ((xs.length : Int) < (us.length : Int)) = false := hge0
   have := of_decide_eq_false h
   omega
  have hW2 : some (xs.map TT.tm ++ [], l1) = W0 := by
   rw [<- hW, List.drop_eq_nil_of_le (by simp [hge]), zc3]
   rfl
  have e := hWR _ hW2
  rw [List.append_nil] at e
  refine zai.freeze2 4 rfl (fun LA LC g0 g1 g2 g3 => ?_)
  refine zai.freeze 5 rfl (fun B cp f1 f2 f3 => ?_)
  refine zaf zac [] _ _ _ ?_
  refine ⟨_, rfl, TT.mk k n s LA LC ls B cp xs, ?_, ?_, ?_⟩
  ·rw [e]
   show (TT.mk k n s LA LC ls B cp xs).tm = _
   rw [zbs]
  ·rw [e]; rfl
  rw [e]
  exact zaa [(0, .blk 0)] rfl rfl rfl rfl (leB rfl) (rs rfl rfl) (rm rfl rfl) ⟨⟨TTIn.upS _, fun w h => by
   have hn := h.2.2.1.1.2.node
   show TTIn w (TT.mk k n s LA LC ls B cp xs)
   unfold TTIn
   refine ⟨⟨hn.hkind, hn.hn, hn.hname, zh8 (by omega) g0 h.2.1, g1, g2, g3, f1, f2, f3⟩, zez xs 0 (fun i u hi => ?_) h.2.2.1.2⟩
   rw [Nat.zero_mul, Nat.zero_add]
   exact h.1 i u hi⟩, trivial⟩
 have hlt : xs.length < us.length := by
  have h : decide ((xs.length : Int) < (us.length : Int)) = true := hlt0
  have := of_decide_eq_true h
  omega
 clear hlt0
 obtain ⟨u, hu⟩ : ∃ u, us[xs.length]? = some u := ⟨_, List.getElem?_eq_getElem hlt⟩
 have hmem := List.mem_of_getElem? hu
 have hrec := ih _ (zd5 hmem) u (IntKind.i64.wrap (d + zbi k (xs.length : Int))) l1 (zg0 hBs (List.mem_map_of_mem hmem)) rfl
 have hstepR := zi9 φ k (xs.length : Int) u.tm ((us.map TT.tm).drop (xs.length + 1)) d l1 (xs.map TT.tm)
 have hdr : (us.map TT.tm).drop xs.length = u.tm :: (us.map TT.tm).drop (xs.length + 1) := by
  rw [List.drop_eq_getElem_cons (i := xs.length) (by simpa using hlt)]
  simp [(List.getElem?_eq_some_iff.1 hu).2]
 rw [<- hdr, hW] at hstepR
 clear hdr
 obtain ⟨o1, ho1⟩ : ∃ o, zdj φ u.tm (IntKind.i64.wrap (d + zbi k (xs.length : Int))) l1 = o := ⟨_, rfl⟩
 rw [ho1] at hrec hstepR
 clear ho1 hW
 refine zai.told (p := ∃ a, aa = some a) (fun w h => ?_) ?_
 ·obtain ⟨⟨a, ha, _⟩, _⟩ := h.1.1.2.arg hu
  exact ⟨a, ha⟩
 rintro ⟨b0, rfl⟩
 refine zaf zac [13] _ _ _ ?_
 refine ⟨{ n := xs.length }, ⟨rfl, hlt, fun w h => rfl⟩, ?_⟩
 obtain ⟨uk, un, unm, ula, ulc, uls, uaa, uac, uus⟩ := u
 refine ⟨{ cs := (TT.mk uk un unm ula ulc uls uaa uac uus).cells }, ⟨TT.cells_one (TT.mk uk un unm ula ulc uls uaa uac uus), rfl, fun w h => ?_⟩, ?_⟩
 ·obtain ⟨⟨a, ha, hc⟩, _⟩ := h.1.1.2.arg hu
  cases ha
  exact ⟨_, rfl, hc⟩
 refine zai.ent (st' := { s := [(1, .one (.v (.int .i64 d))), (2, .one (.p 0 0)), (3, .one (.fn f [] [.v c1, .v c2])), (4, .one (.p 1 0)), (8, .one (.p 2 0)), (11, .one (.p 3 0)), (56, .one (.v (.slice (some b0) us.length ac))), (57, .one (.v (.int .i64 (us.length : Int)))), (58, .one (.v (.int .i64 (xs.length : Int)))), (12, .one (.v (.int .i64 (xs.length : Int)))), (13, .one (.p 6 0))], m := [(0, .cells 3 [.v (.int .i64 l1)]), (1, .cells 41 ((TT.mk k n s la lc ls (some b0) ac us).cells.map SA.v)), (2, .cells 41 zap), (3, .cells 41 [.v (.int .i64 k), .v (.int .i64 n), .v (.string s), .row 4, .row 5]), (4, .own 24 5 ls.length (lvsC ls)), (5, .own 41 5 xs.length (ttsC xs)), (6, .cells 41 ((TT.mk uk un unm ula ulc uls uaa uac uus).cells.map SA.v))], k := 7, f := [wG pre (TT.mk k n s la lc ls (some b0) ac us) xs], b := 1 }) (zaa [(0, .blk 0), (1, .blk 1), (2, .blk 2), (3, .blk 3), (4, .own 4), (5, .own 5), (6, .blk 6)] rfl rfl rfl rfl (leB rfl) ⟨⟨_, rfl, rfl⟩, ⟨_, rfl, rfl⟩, ⟨_, rfl, rfl⟩, ⟨_, rfl, rfl⟩, ⟨_, rfl, rfl⟩, ⟨_, rfl, rfl⟩, ⟨_, rfl, rfl⟩, ⟨_, rfl, rfl⟩, ⟨_, rfl, rfl⟩, ⟨_, rfl, rfl⟩, ⟨_, rfl, rfl⟩, trivial⟩ ⟨⟨_, rfl, rfl⟩, ⟨_, rfl, rfl⟩, ⟨_, rfl, rfl⟩, ⟨_, rfl, rfl⟩, ⟨_, _, rfl, rfl, rfl⟩, ⟨_, _, rfl, rfl, rfl⟩, ⟨_, rfl, rfl⟩, trivial⟩ ⟨⟨wG.up hpre _ _, fun w h => h.1⟩, trivial⟩) ?_
 have hfit1 : xs.length + 1 <= maxLen := by simp only [maxLen]; omega
 have hfit2 : (xs.length + 1) * 80 <= 140737488355328 := by omega
 refine zaf zac [] _ _ _ ?_
 let hS : List (Nat × SV) := [(1, .one (.v (.int .i64 d))), (2, .one (.p 0 0)), (3, .one (.fn f [] [.v c1, .v c2])), (4, .one (.p 1 0)), (8, .one (.p 2 0)), (11, .one (.p 3 0)), (56, .one (.v (.slice (some b0) us.length ac))), (57, .one (.v (.int .i64 (us.length : Int)))), (58, .one (.v (.int .i64 (xs.length : Int)))), (12, .one (.v (.int .i64 (xs.length : Int)))), (13, .one (.p 6 0))]
 let hM : List (Nat × LB) := [(0, .cells 3 [.v (.int .i64 l1)]), (1, .cells 41 ((TT.mk k n s la lc ls (some b0) ac us).cells.map SA.v)), (2, .cells 41 zap), (3, .cells 41 [.v (.int .i64 k), .v (.int .i64 n), .v (.string s), .row 4, .row 5]), (4, .own 24 5 ls.length (lvsC ls)), (5, .own 41 5 xs.length (ttsC xs)), (6, .cells 41 ((TT.mk uk un unm ula ulc uls uaa uac uus).cells.map SA.v))]
 let hF : List (World -> Prop) := [wG pre (TT.mk k n s la lc ls (some b0) ac us) xs]
 let x7 : Nat × SV := (70, .one (.v (.int .i64 (zbi k (xs.length : Int)))))
 let f7 : World -> Prop := fun _ => True
 let x8 : Nat × SV := (71, .one (.v (.int .i64 (IntKind.i64.wrap (d + zbi k (xs.length : Int))))))
 refine .inr ⟨[0, 1, 0, 0, 0, 16, 0, 112, 248, 0, 0, 2044, 4092, 8191, 16383, 32767], [7, 8, 11, 12, 13, 15], [(0, { dst := some 63, v := .one (.p 3 4), p := none, f := none }), (1, { dst := some 64, v := .one (.row 5), p := none, f := none }), (2, { dst := some 65, v := ttA (TT.mk uk un unm ula ulc uls uaa uac uus), p := none, f := none }), (3, { dst := some 66, v := .one (.v (.int .i64 d)), p := none, f := none }), (4, { dst := some 67, v := .one (.p 1 0), p := none, f := none }), (5, { dst := some 68, v := .one (.v (.int .i64 k)), p := none, f := none }), (6, { dst := some 69, v := .one (.v (.int .i64 (xs.length : Int))), p := none, f := none }), (9, { dst := some 72, v := .one (.p 0 0), p := none, f := none }), (10, { dst := some 73, v := .one (.fn f [] [.v c1, .v c2]), p := none, f := none }), (14, { dst := some 77, v := .one (.p 3 4), p := none, f := none })], by kernel_rfl, rfl, by kernel_rfl, by kernel_rfl, rfl, rfl, rfl, rfl, ?_⟩
 refine zam ({ s := hS, m := hM, k := 7, f := hF, b := 1 }) [7] rfl (by kernel_rfl) (by kernel_rfl) ⟨⟨rfl, rfl⟩, ⟨rfl, rfl⟩, ⟨rfl, rfl⟩, ⟨rfl, rfl⟩, ⟨rfl, rfl⟩, ⟨rfl, rfl⟩, ⟨rfl, rfl⟩, ⟨rfl, rfl⟩, ⟨rfl, rfl⟩, ⟨rfl, rfl⟩, trivial⟩ ⟨?_, trivial⟩
 refine ⟨_, rfl, rfl, _, rfl, ?_⟩
 refine zae (zh1 k (xs.length : Int) (Int.natCast_nonneg _)) (fun _ => rfl) (fun _ _ => trivial) ?_
 rintro r rfl
 refine zam ({ s := x7 :: hS, m := hM, k := 7, f := f7 :: hF, b := 1 }) [8] rfl (by kernel_rfl) (by kernel_rfl) ⟨⟨rfl, rfl⟩, ⟨rfl, rfl⟩, ⟨rfl, rfl⟩, ⟨rfl, rfl⟩, ⟨rfl, trivial⟩, ⟨rfl, trivial⟩, ⟨rfl, trivial⟩, ⟨rfl, rfl⟩, ⟨rfl, rfl⟩, ⟨rfl, rfl⟩, trivial⟩ ⟨?_, trivial⟩
 refine ⟨_, rfl, rfl, _, rfl, ?_⟩
 refine zam ({ s := x8 :: x7 :: hS, m := hM, k := 7, f := f7 :: hF, b := 1 }) [11] rfl (by kernel_rfl) (by kernel_rfl) ⟨⟨rfl, rfl⟩, ⟨rfl, rfl⟩, ⟨rfl, rfl⟩, ⟨rfl, trivial⟩, ⟨rfl, trivial⟩, ⟨rfl, trivial⟩, ⟨rfl, trivial⟩, ⟨rfl, rfl⟩, ⟨rfl, rfl⟩, ⟨rfl, rfl⟩, trivial⟩ ⟨?_, trivial⟩
 refine ⟨_, rfl, rfl, _, rfl, ?_⟩
 cases o1 with
 | none =>
  refine zab [0] hrec rfl ⟨rfl, trivial⟩ rfl rfl (fun w h => ⟨h.2.1.1.1, (h.2.1.1.2.arg hu).2⟩) (fun _ _ => ⟨rfl, rfl⟩) (fun _ _ => ?_)
  have e := hstepR.symm
  have e := hWR _ e
  subst e
  exact ⟨zba 0 0 ⟨#[]⟩, trivial, rfl, zaa [(0, .blk 0)] rfl rfl rfl rfl (leB rfl) (rs rfl rfl) trivial ⟨⟨Up.true, fun _ _ => trivial⟩, trivial⟩⟩
 | some q1 =>
 obtain ⟨u1, l2⟩ := q1
 refine zab [0] hrec rfl ⟨rfl, trivial⟩ rfl rfl (fun w h => ⟨h.2.1.1.1, (h.2.1.1.2.arg hu).2⟩) (fun x _ => ?_) (fun x hx => ?_)
 ·obtain ⟨vk, vn, vnm, vla, vlc, vls, vaa, vac, vus⟩ := x
  exact ⟨rfl, rfl⟩
 have hx : x.tm = u1 := hx
 have hnext : zja ((xs ++ [x]).map TT.tm) (zc3 φ k ((xs.length : Int) + 1) ((us.map TT.tm).drop (xs.length + 1)) d l2) = W0 := by
  rw [List.map_append, List.map_cons, List.map_nil, hx]
  exact hstepR.symm
 clear hstepR hx
 obtain ⟨vk, vn, vnm, vla, vlc, vls, vaa, vac, vus⟩ := x
 let x11 : Nat × SV := (74, ttA (TT.mk vk vn vnm vla vlc vls vaa vac vus))
 let m11a : Nat × LB := (0, .cells 3 [.v (.int .i64 l2)])
 let m11b : Nat × LB := (0, .dead)
 let f11 : World -> Prop := fun w => TTIn w (TT.mk vk vn vnm vla vlc vls vaa vac vus)
 let x12 : Nat × SV := (75, .one (.sl 7 0 1 1))
 let m12a : Nat × LB := (7, .cells 41 ((TT.mk vk vn vnm vla vlc vls vaa vac vus).cells.map SA.v))
 let x13 : Nat × SV := (76, .one (.row 8))
 let m13a : Nat × LB := (8, .own 41 5 (xs.length + 1) (ttsC xs ++ (TT.mk vk vn vnm vla vlc vls vaa vac vus).cells))
 let m13b : Nat × LB := (5, .dead)
 let m15a : Nat × LB := (3, .cells 41 [.v (.int .i64 k), .v (.int .i64 n), .v (.string s), .row 4, .row 8])
 refine zam ({ s := x11 :: x8 :: x7 :: hS, m := m11a :: m11b :: hM, k := 7, f := f11 :: f7 :: hF, b := 1 }) [12] rfl (by kernel_rfl) (by kernel_rfl) ⟨⟨rfl, rfl⟩, ⟨rfl, rfl⟩, ⟨rfl, trivial⟩, ⟨rfl, trivial⟩, ⟨rfl, trivial⟩, ⟨rfl, trivial⟩, ⟨rfl, trivial⟩, ⟨rfl, trivial⟩, ⟨rfl, trivial⟩, ⟨rfl, rfl⟩, trivial⟩ ⟨?_, trivial⟩
 refine ⟨_, rfl, rfl, _, rfl, ?_⟩
 refine zam ({ s := x12 :: x11 :: x8 :: x7 :: hS, m := m12a :: m11a :: m11b :: hM, k := 8, f := f11 :: f7 :: hF, b := 1 }) [13] rfl (by kernel_rfl) (by kernel_rfl) ⟨⟨rfl, rfl⟩, ⟨rfl, rfl⟩, ⟨rfl, trivial⟩, ⟨rfl, trivial⟩, ⟨rfl, trivial⟩, ⟨rfl, trivial⟩, ⟨rfl, trivial⟩, ⟨rfl, trivial⟩, ⟨rfl, trivial⟩, ⟨rfl, rfl⟩, trivial⟩ ⟨?_, trivial⟩
 refine ⟨_, rfl, rfl, _, rfl, ?_⟩
 refine ⟨{}, ⟨trivial, by decide, .inr rfl, hfit1, hfit2⟩, ?_⟩
 refine zam ({ s := x13 :: x12 :: x11 :: x8 :: x7 :: hS, m := m13a :: m13b :: m12a :: m11a :: m11b :: hM, k := 9, f := f11 :: f7 :: hF, b := 1 }) [15] rfl (by kernel_rfl) (by kernel_rfl) ⟨⟨rfl, trivial⟩, ⟨rfl, trivial⟩, ⟨rfl, trivial⟩, ⟨rfl, trivial⟩, ⟨rfl, trivial⟩, ⟨rfl, trivial⟩, ⟨rfl, trivial⟩, ⟨rfl, trivial⟩, ⟨rfl, trivial⟩, ⟨rfl, rfl⟩, trivial⟩ ⟨?_, trivial⟩
 refine ⟨_, rfl, rfl, _, rfl, ?_⟩
 refine zcm _ rfl (by kernel_rfl) ⟨⟨rfl, trivial⟩, ⟨rfl, trivial⟩, ⟨rfl, trivial⟩, ⟨rfl, trivial⟩, ⟨rfl, trivial⟩, ⟨rfl, trivial⟩, ⟨rfl, trivial⟩, ⟨rfl, trivial⟩, ⟨rfl, trivial⟩, ⟨rfl, trivial⟩, trivial⟩ ?_
 exact ⟨(xs ++ [(TT.mk vk vn vnm vla vlc vls vaa vac vus)], l2), ⟨by simp only [List.length_append, List.length_singleton]; omega, by simp only [List.length_append, List.length_singleton]; exact hnext⟩, by simp only [List.length_append, List.length_singleton]; omega, zaa [(0, .blk 0), (1, .blk 1), (2, .blk 2), (3, .blk 3), (4, .own 4), (5, .own 8)] rfl rfl rfl rfl (leB rfl) ⟨⟨_, rfl, rfl⟩, ⟨_, rfl, rfl⟩, ⟨_, rfl, rfl⟩, ⟨_, rfl, rfl⟩, ⟨_, rfl, rfl⟩, ⟨_, rfl, rfl⟩, ⟨_, rfl, rfl⟩, ⟨_, rfl, rfl⟩, ⟨_, rfl, by simp only [List.length_append, List.length_singleton]; exact oneI (za9 (by omega) (by omega))⟩, trivial⟩ ⟨⟨_, rfl, rfl⟩, ⟨_, rfl, rfl⟩, ⟨_, rfl, rfl⟩, ⟨_, rfl, rfl⟩, ⟨_, _, rfl, rfl, rfl⟩, ⟨_, _, rfl, by simp, by simp [ttsC]⟩, trivial⟩ ⟨⟨wG.up hpre _ _, fun w h => ⟨h.2.2.1.1, fun x hx => (List.mem_append.1 hx).elim (h.2.2.1.2 x) (fun hx => by rw [List.mem_singleton.1 hx]; exact h.1)⟩⟩, trivial⟩⟩
end Go.Proofs.YtmkpiekbpakigaaDoor
end
section
set_option linter.unusedVariables false
set_option linter.unusedSimpArgs false
namespace Go.Proofs.YtmkpiekbpakigaaDoor
open Go.RowKit Go.Proofs.Base Go.Proofs.Sym
set_option maxHeartbeats 8000000 in
theorem zvp (f : FuncId) (c1 : Value) (pre : World -> Prop) (hpre : Up pre) (φ : Tm -> Int -> Option (Option Tm))
  (hφ : ∀ (t : TT) (d : Int), tmB t.tm -> zav Tryd.prog f [ttA t, .one (.v (.int .i64 d)), .one (.v c1)] [] 0 (fun w => pre w /\ TTIn w t) (ze5 (φ t.tm d)) (zb7 (φ t.tm d))) (t : TT) (d l : Int) (hB : tmB t.tm) :
  zav Tryd.prog 125 [ttA t, .one (.v (.int .i64 d)), .one (.p 0 0), .one (.fn f [] [.v c1])] [(0, .cells 3 [.v (.int .i64 l)])] 1 (fun w => pre w /\ TTIn w t) (zy0 (zdj φ t.tm d l)) (zsf (zdj φ t.tm d l)) := by
 induction hsz : SizeOf.sizeOf t using Nat.strongRecOn generalizing t d l with
 | _ z ih =>
 have hrule := hφ t d hB
 obtain ⟨k, n, s, la, lc, ls, aa, ac, us⟩ := t
 subst hsz
 rw [zbs] at hrule hB ⊢
 have hB2 := hB
 unfold tmB at hB2
 obtain ⟨hB1, hBu, hBs⟩ := hB2
 rw [List.length_map] at hBu
 have hus : us.length <= 1759218604390 := by omega
 have hc131 := zey la lc ls hB1
 have hspec := show zdj φ (.mk k n s ls (us.map TT.tm)) d l = _ by rw [zdj]
 obtain ⟨o, ho⟩ : ∃ o, φ (.mk k n s ls (us.map TT.tm)) d = o := ⟨_, rfl⟩
 rw [ho] at hrule hspec
 obtain ⟨R, hR⟩ : ∃ R, zdj φ (.mk k n s ls (us.map TT.tm)) d l = R := ⟨_, rfl⟩
 rw [hR] at hspec ⊢
 clear hR ho
 obtain ⟨q6, hq6⟩ : ∃ q, decide (0 <= IntKind.i64.wrap (l - IntKind.i64.wrap (1 + (ls.length : Int)))) = q := ⟨_, rfl⟩
 have hn6 := zks q6 hq6
 rw [hq6] at hspec
 obtain ⟨W0, hW0⟩ : ∃ W, zc3 φ k 0 (us.map TT.tm) d (IntKind.i64.wrap (l - IntKind.i64.wrap (1 + (ls.length : Int)))) = W := ⟨_, rfl⟩
 rw [hW0] at hspec
 refine zas zac 80 [.cell 8 41] Tryd.func125 rfl rfl (by kernel_rfl) rfl _ (leB rfl) (hpre.and (TTIn.upS _)) ?_
 cases o with
 | none =>
  have hspec : R = none := hspec
  subst hspec
  refine zaf zac [6] _ _ _ ?_
  refine zab [] hrule rfl trivial rfl rfl (fun w h => h.1) (fun _ _ => ⟨rfl, rfl⟩) (fun _ _ => ?_)
  exact ⟨zba 0 0 ⟨#[]⟩, trivial, rfl, zaa [(0, .blk 0)] rfl rfl rfl rfl (leB rfl) (rs rfl rfl) trivial ⟨⟨Up.true, fun _ _ => trivial⟩, trivial⟩⟩
 | some o =>
 cases o with
 | some x0 =>
  obtain ⟨q3, hq3⟩ : ∃ q, decide (0 <= IntKind.i64.wrap (l - zcb x0)) = q := ⟨_, rfl⟩
  have hn3 := zks q3 hq3
  have hspec : R = zsn x0 (IntKind.i64.wrap (l - zcb x0)) (decide (0 <= IntKind.i64.wrap (l - zcb x0))) := hspec
  rw [hq3] at hspec
  refine zaf zac [6] _ _ _ ?_
  refine zab [] hrule rfl trivial rfl rfl (fun w h => h.1) (fun x _ => ?_) (fun x hx => ?_)
  ·obtain ⟨xk, xn, xnm, xla, xlc, xls, xaa, xac, xus⟩ := x
   exact ⟨rfl, rfl⟩
  have hnx := zk4 x
  have hx : x.tm = x0 := hx
  rw [hx] at hnx
  obtain ⟨xk, xn, xnm, xla, xlc, xls, xaa, xac, xus⟩ := x
  refine .inl ⟨7, [0, 1, 3, 0, 8, 31, 63, 127], fun vs i => match i with
   | 4 => { pre := fun w => TTIn w (TT.mk xk xn xnm xla xlc xls xaa xac xus), R := fun u => u = .int .i64 (zcb x0), nf := fun _ => .int .i64 (zcb x0) }
   | _ => {}, by kernel_rfl, rfl, by kernel_rfl, by kernel_rfl, by kernel_rfl, by decide, fun vals => ?_⟩
  refine ⟨fun _ => ⟨hnx, fun w h => h.1, fun _ h => h⟩, ?_⟩
  intro _
  cases q3 with
  | false =>
   have hspec : R = none := hspec
   subst hspec
   refine zab [] hn3 rfl trivial rfl rfl (fun _ _ => trivial) (fun _ _ => ⟨rfl, rfl⟩) (fun _ _ => ?_)
   exact ⟨zba 0 0 ⟨#[]⟩, trivial, rfl, zaa [(0, .blk 0)] rfl rfl rfl rfl (leB rfl) (rs rfl rfl) trivial ⟨⟨Up.true, fun _ _ => trivial⟩, trivial⟩⟩
  | true =>
   have hspec : R = some (x0, IntKind.i64.wrap (l - zcb x0)) := hspec
   subst hspec
   refine zab [] hn3 rfl trivial rfl rfl (fun _ _ => trivial) (fun _ _ => ⟨rfl, rfl⟩) (fun _ _ => ?_)
   refine ⟨_, rfl, TT.mk xk xn xnm xla xlc xls xaa xac xus, hx, rfl, ?_⟩
   exact zaa [(0, .blk 0)] rfl rfl rfl rfl (leB rfl) (rs rfl rfl) (rm rfl rfl) ⟨⟨TTIn.upS _, fun w h => h.2.2.1⟩, trivial⟩
 | none =>
 have hspec : R = zm7 k n s ls q6 W0 := hspec
 refine zaf zac [6] _ _ _ ?_
 refine zab [] hrule rfl trivial rfl rfl (fun w h => h.1) (fun _ _ => ⟨rfl, rfl⟩) (fun _ _ => ?_)
 refine zai.ent (st' := { s := [(1, .one (.v (.int .i64 d))), (2, .one (.p 0 0)), (3, .one (.fn f [] [.v c1])), (4, .one (.p 1 0)), (8, .one (.p 2 0))], m := [(0, .cells 3 [.v (.int .i64 l)]), (1, .cells 41 ((TT.mk k n s la lc ls aa ac us).cells.map SA.v)), (2, .cells 41 zap)], k := 3, f := [fun w => pre w /\ TTIn w (TT.mk k n s la lc ls aa ac us)], b := 1 }) (zaa [(0, .blk 0), (1, .blk 1), (2, .blk 2)] rfl rfl rfl rfl (leB rfl) (rs rfl rfl) (rm rfl rfl) ⟨⟨(hpre.and (TTIn.upS _)), fun w h => h.2.1⟩, trivial⟩) ?_
 refine zaf zac [8] _ _ _ ?_
 refine .inl ⟨9, [0, 1, 3, 0, 8, 24, 56, 127, 255, 511], fun vs i => {}, by kernel_rfl, rfl, by kernel_rfl, by kernel_rfl, by kernel_rfl, by decide, fun vals => ?_⟩
 intro _
 cases q6 with
 | false =>
  have hspec : R = none := hspec
  subst hspec
  refine zab [] hn6 rfl trivial rfl rfl (fun _ _ => trivial) (fun _ _ => ⟨rfl, rfl⟩) (fun _ _ => ?_)
  exact ⟨zba 0 0 ⟨#[]⟩, trivial, rfl, zaa [(0, .blk 0)] rfl rfl rfl rfl (leB rfl) (rs rfl rfl) trivial ⟨⟨Up.true, fun _ _ => trivial⟩, trivial⟩⟩
 | true =>
 have hWR : ∀ w, w = W0 -> R = zm7 k n s ls true w := fun w e => by
  rw [e]
  exact hspec
 clear hspec
 refine zab [] hn6 rfl trivial rfl rfl (fun _ _ => trivial) (fun _ _ => ⟨rfl, rfl⟩) (fun _ _ => ?_)
 obtain ⟨l6, hl6⟩ : ∃ x, IntKind.i64.wrap (l - IntKind.i64.wrap (1 + (ls.length : Int))) = x := ⟨_, rfl⟩
 rw [hl6] at hW0
 refine zai.ent (st' := { s := [(1, .one (.v (.int .i64 d))), (2, .one (.p 0 0)), (3, .one (.fn f [] [.v c1])), (4, .one (.p 1 0)), (8, .one (.p 2 0))], m := [(0, .cells 3 [.v (.int .i64 l6)]), (1, .cells 41 ((TT.mk k n s la lc ls aa ac us).cells.map SA.v)), (2, .cells 41 zap)], k := 3, f := [fun w => pre w /\ TTIn w (TT.mk k n s la lc ls aa ac us)], b := 1 }) (zaa [(0, .blk 0), (1, .blk 1), (2, .blk 2)] rfl rfl rfl rfl (leB rfl) ⟨⟨_, rfl, rfl⟩, ⟨_, rfl, rfl⟩, ⟨_, rfl, rfl⟩, ⟨_, rfl, rfl⟩, ⟨_, rfl, rfl⟩, trivial⟩ ⟨⟨_, rfl, by rw [hl6]; rfl⟩, ⟨_, rfl, rfl⟩, ⟨_, rfl, rfl⟩, trivial⟩ ⟨⟨(hpre.and (TTIn.upS _)), fun w h => h.2.1⟩, trivial⟩) ?_
 clear hl6 hq6 hn6 hrule
 refine zaf zac [10] _ _ _ ?_
 refine zab [] hc131 rfl trivial rfl rfl (fun w h => ⟨h.1.2.node.hls, h.1.2.node.hla⟩) (fun _ _ => ⟨rfl, rfl⟩) (fun _ _ => ?_)
 refine zai.ent (st' := { s := [(1, .one (.v (.int .i64 d))), (2, .one (.p 0 0)), (3, .one (.fn f [] [.v c1])), (4, .one (.p 1 0)), (8, .one (.p 2 0)), (11, .one (.p 3 0))], m := [(0, .cells 3 [.v (.int .i64 l6)]), (1, .cells 41 ((TT.mk k n s la lc ls aa ac us).cells.map SA.v)), (2, .cells 41 zap), (3, .cells 41 [.v (.int .i64 k), .v (.int .i64 n), .v (.string s), .row 4, .v (.slice none 0 0)]), (4, .own 24 5 ls.length (lvsC ls))], k := 5, f := [fun w => pre w /\ TTIn w (TT.mk k n s la lc ls aa ac us)], b := 1 }) (zaa [(0, .blk 0), (1, .blk 1), (2, .blk 2), (3, .blk 3), (4, .own 4)] rfl rfl rfl rfl (leB rfl) ⟨⟨_, rfl, rfl⟩, ⟨_, rfl, rfl⟩, ⟨_, rfl, rfl⟩, ⟨_, rfl, rfl⟩, ⟨_, rfl, rfl⟩, ⟨_, rfl, rfl⟩, trivial⟩ ⟨⟨_, rfl, rfl⟩, ⟨_, rfl, rfl⟩, ⟨_, rfl, rfl⟩, ⟨_, rfl, rfl⟩, ⟨_, _, rfl, rfl, rfl⟩, trivial⟩ ⟨⟨(hpre.and (TTIn.upS _)), fun w h => h.2.1⟩, trivial⟩) ?_
 refine zai.ent (zfz 3 41 5 ([.v (.int .i64 k), .v (.int .i64 n), .v (.string s), .row 4, .row 5]) rfl (fun e he => ?_) (fun h => ?_)) ?_
 ·show _ :: _ :: _ :: _ :: [e.rv 5] = _
  rw [show e.rv 5 = Value.slice none 0 0 from he]
  rfl
 ·intro c hc
  simp only [List.mem_cons, List.not_mem_nil, or_false] at hc
  rcases hc with rfl | rfl | rfl | rfl | rfl
  ·rfl
  ·rfl
  ·rfl
  ·exact Nat.lt_succ_of_lt (Nat.lt_succ_self _)
  ·exact Nat.lt_succ_self _
 refine zaf zac [12, 15] _ _ _ ?_
 refine ⟨⟨List TT × Int, fun q => q.1.length <= us.length /\ zja (q.1.map TT.tm) (zc3 φ k (q.1.length : Int) ((us.map TT.tm).drop q.1.length) d q.2) = W0, fun q => { s := [(1, .one (.v (.int .i64 d))), (2, .one (.p 0 0)), (3, .one (.fn f [] [.v c1])), (4, .one (.p 1 0)), (8, .one (.p 2 0)), (11, .one (.p 3 0)), (56, .one (.v (.slice aa us.length ac))), (57, .one (.v (.int .i64 (us.length : Int)))), (58, .one (.v (.int .i64 (q.1.length : Int))))], m := [(0, .cells 3 [.v (.int .i64 q.2)]), (1, .cells 41 ((TT.mk k n s la lc ls aa ac us).cells.map SA.v)), (2, .cells 41 zap), (3, .cells 41 [.v (.int .i64 k), .v (.int .i64 n), .v (.string s), .row 4, .row 5]), (4, .own 24 5 ls.length (lvsC ls)), (5, .own 41 5 q.1.length (ttsC q.1))], k := 6, f := [wG pre (TT.mk k n s la lc ls aa ac us) q.1], b := 1 }, fun q => us.length - q.1.length, ⟨([], l6), ⟨Nat.zero_le _, ?_⟩, zaa [(0, .blk 0), (1, .blk 1), (2, .blk 2), (3, .blk 3), (4, .own 4), (5, .own 5)] rfl rfl rfl rfl (leB rfl) ⟨⟨_, rfl, rfl⟩, ⟨_, rfl, rfl⟩, ⟨_, rfl, rfl⟩, ⟨_, rfl, rfl⟩, ⟨_, rfl, rfl⟩, ⟨_, rfl, rfl⟩, ⟨_, rfl, rfl⟩, ⟨_, rfl, rfl⟩, ⟨_, rfl, rfl⟩, trivial⟩ ⟨⟨_, rfl, rfl⟩, ⟨_, rfl, rfl⟩, ⟨_, rfl, rfl⟩, ⟨_, rfl, rfl⟩, ⟨_, _, rfl, rfl, rfl⟩, ⟨_, _, rfl, rfl, rfl⟩, trivial⟩ ⟨⟨wG.up hpre _ _, fun w h => ⟨h.1, fun x hx => by cases hx⟩⟩, trivial⟩⟩, ?_⟩⟩
 ·show zja [] (zc3 φ k 0 (us.map TT.tm) d l6) = W0
  rw [hW0]
  cases W0 with
  | none => rfl
  | some q => rfl
 rintro ⟨xs, l1⟩ ⟨hj, hW⟩
 have hj : xs.length <= us.length := hj
 have hW : zja (xs.map TT.tm) (zc3 φ k (xs.length : Int) ((us.map TT.tm).drop xs.length) d l1) = W0 := hW
 clear hW0
 refine zad (fun hlt0 => ?_) (fun hge0 => ?_)
 rotate_left
 ·have hge : us.length = xs.length := by
   have h : decide ((xs.length : Int) < (us.length : Int)) = false := hge0
   have := of_decide_eq_false h
   omega
  have hW2 : some (xs.map TT.tm ++ [], l1) = W0 := by
   rw [<- hW, List.drop_eq_nil_of_le (by simp [hge]), zc3]
   rfl
  have e := hWR _ hW2
  rw [List.append_nil] at e
  refine zai.freeze2 4 rfl (fun LA LC g0 g1 g2 g3 => ?_)
  refine zai.freeze 5 rfl (fun B cp f1 f2 f3 => ?_)
  refine zaf zac [] _ _ _ ?_
  refine ⟨_, rfl, TT.mk k n s LA LC ls B cp xs, ?_, ?_, ?_⟩
  ·rw [e]
   show (TT.mk k n s LA LC ls B cp xs).tm = _
   rw [zbs]
  ·rw [e]; rfl
  rw [e]
  exact zaa [(0, .blk 0)] rfl rfl rfl rfl (leB rfl) (rs rfl rfl) (rm rfl rfl) ⟨⟨TTIn.upS _, fun w h => by
   have hn := h.2.2.1.1.2.node
   show TTIn w (TT.mk k n s LA LC ls B cp xs)
   unfold TTIn
   refine ⟨⟨hn.hkind, hn.hn, hn.hname, zh8 (by omega) g0 h.2.1, g1, g2, g3, f1, f2, f3⟩, zez xs 0 (fun i u hi => ?_) h.2.2.1.2⟩
   rw [Nat.zero_mul, Nat.zero_add]
   exact h.1 i u hi⟩, trivial⟩
 have hlt : xs.length < us.length := by
  have h : decide ((xs.length : Int) < (us.length : Int)) = true := hlt0
  have := of_decide_eq_true h
  omega
 clear hlt0
 obtain ⟨u, hu⟩ : ∃ u, us[xs.length]? = some u := ⟨_, List.getElem?_eq_getElem hlt⟩
 have hmem := List.mem_of_getElem? hu
 have hrec := ih _ (zd5 hmem) u (IntKind.i64.wrap (d + zbi k (xs.length : Int))) l1 (zg0 hBs (List.mem_map_of_mem hmem)) rfl
 have hstepR := zi9 φ k (xs.length : Int) u.tm ((us.map TT.tm).drop (xs.length + 1)) d l1 (xs.map TT.tm)
 have hdr : (us.map TT.tm).drop xs.length = u.tm :: (us.map TT.tm).drop (xs.length + 1) := by
  rw [List.drop_eq_getElem_cons (i := xs.length) (by simpa using hlt)]
  simp [(List.getElem?_eq_some_iff.1 hu).2]
 rw [<- hdr, hW] at hstepR
 clear hdr
 obtain ⟨o1, ho1⟩ : ∃ o, zdj φ u.tm (IntKind.i64.wrap (d + zbi k (xs.length : Int))) l1 = o := ⟨_, rfl⟩
 rw [ho1] at hrec hstepR
 clear ho1 hW
 refine zai.told (p := ∃ a, aa = some a) (fun w h => ?_) ?_
 ·obtain ⟨⟨a, ha, _⟩, _⟩ := h.1.1.2.arg hu
  exact ⟨a, ha⟩
 rintro ⟨b0, rfl⟩
 refine zaf zac [13] _ _ _ ?_
 refine ⟨{ n := xs.length }, ⟨rfl, hlt, fun w h => rfl⟩, ?_⟩
 obtain ⟨uk, un, unm, ula, ulc, uls, uaa, uac, uus⟩ := u
 refine ⟨{ cs := (TT.mk uk un unm ula ulc uls uaa uac uus).cells }, ⟨TT.cells_one (TT.mk uk un unm ula ulc uls uaa uac uus), rfl, fun w h => ?_⟩, ?_⟩
 ·obtain ⟨⟨a, ha, hc⟩, _⟩ := h.1.1.2.arg hu
  cases ha
  exact ⟨_, rfl, hc⟩
 refine zai.ent (st' := { s := [(1, .one (.v (.int .i64 d))), (2, .one (.p 0 0)), (3, .one (.fn f [] [.v c1])), (4, .one (.p 1 0)), (8, .one (.p 2 0)), (11, .one (.p 3 0)), (56, .one (.v (.slice (some b0) us.length ac))), (57, .one (.v (.int .i64 (us.length : Int)))), (58, .one (.v (.int .i64 (xs.length : Int)))), (12, .one (.v (.int .i64 (xs.length : Int)))), (13, .one (.p 6 0))], m := [(0, .cells 3 [.v (.int .i64 l1)]), (1, .cells 41 ((TT.mk k n s la lc ls (some b0) ac us).cells.map SA.v)), (2, .cells 41 zap), (3, .cells 41 [.v (.int .i64 k), .v (.int .i64 n), .v (.string s), .row 4, .row 5]), (4, .own 24 5 ls.length (lvsC ls)), (5, .own 41 5 xs.length (ttsC xs)), (6, .cells 41 ((TT.mk uk un unm ula ulc uls uaa uac uus).cells.map SA.v))], k := 7, f := [wG pre (TT.mk k n s la lc ls (some b0) ac us) xs], b := 1 }) (zaa [(0, .blk 0), (1, .blk 1), (2, .blk 2), (3, .blk 3), (4, .own 4), (5, .own 5), (6, .blk 6)] rfl rfl rfl rfl (leB rfl) ⟨⟨_, rfl, rfl⟩, ⟨_, rfl, rfl⟩, ⟨_, rfl, rfl⟩, ⟨_, rfl, rfl⟩, ⟨_, rfl, rfl⟩, ⟨_, rfl, rfl⟩, ⟨_, rfl, rfl⟩, ⟨_, rfl, rfl⟩, ⟨_, rfl, rfl⟩, ⟨_, rfl, rfl⟩, ⟨_, rfl, rfl⟩, trivial⟩ ⟨⟨_, rfl, rfl⟩, ⟨_, rfl, rfl⟩, ⟨_, rfl, rfl⟩, ⟨_, rfl, rfl⟩, ⟨_, _, rfl, rfl, rfl⟩, ⟨_, _, rfl, rfl, rfl⟩, ⟨_, rfl, rfl⟩, trivial⟩ ⟨⟨wG.up hpre _ _, fun w h => h.1⟩, trivial⟩) ?_
 have hfit1 : xs.length + 1 <= maxLen := by simp only [maxLen]; omega
 have hfit2 : (xs.length + 1) * 80 <= 140737488355328 := by omega
 refine zaf zac [] _ _ _ ?_
 let hS : List (Nat × SV) := [(1, .one (.v (.int .i64 d))), (2, .one (.p 0 0)), (3, .one (.fn f [] [.v c1])), (4, .one (.p 1 0)), (8, .one (.p 2 0)), (11, .one (.p 3 0)), (56, .one (.v (.slice (some b0) us.length ac))), (57, .one (.v (.int .i64 (us.length : Int)))), (58, .one (.v (.int .i64 (xs.length : Int)))), (12, .one (.v (.int .i64 (xs.length : Int)))), (13, .one (.p 6 0))]
 let hM : List (Nat × LB) := [(0, .cells 3 [.v (.int .i64 l1)]), (1, .cells 41 ((TT.mk k n s la lc ls (some b0) ac us).cells.map SA.v)), (2, .cells 41 zap), (3, .cells 41 [.v (.int .i64 k), .v (.int .i64 n), .v (.string s), .row 4, .row 5]), (4, .own 24 5 ls.length (lvsC ls)), (5, .own 41 5 xs.length (ttsC xs)), (6, .cells 41 ((TT.mk uk un unm ula ulc uls uaa uac uus).cells.map SA.v))]
 let hF : List (World -> Prop) := [wG pre (TT.mk k n s la lc ls (some b0) ac us) xs]
 let x7 : Nat × SV := (70, .one (.v (.int .i64 (zbi k (xs.length : Int)))))
 let f7 : World -> Prop := fun _ => True
 let x8 : Nat × SV := (71, .one (.v (.int .i64 (IntKind.i64.wrap (d + zbi k (xs.length : Int))))))
 refine .inr ⟨[0, 1, 0, 0, 0, 16, 0, 112, 248, 0, 0, 2044, 4092, 8191, 16383, 32767], [7, 8, 11, 12, 13, 15], [(0, { dst := some 63, v := .one (.p 3 4), p := none, f := none }), (1, { dst := some 64, v := .one (.row 5), p := none, f := none }), (2, { dst := some 65, v := ttA (TT.mk uk un unm ula ulc uls uaa uac uus), p := none, f := none }), (3, { dst := some 66, v := .one (.v (.int .i64 d)), p := none, f := none }), (4, { dst := some 67, v := .one (.p 1 0), p := none, f := none }), (5, { dst := some 68, v := .one (.v (.int .i64 k)), p := none, f := none }), (6, { dst := some 69, v := .one (.v (.int .i64 (xs.length : Int))), p := none, f := none }), (9, { dst := some 72, v := .one (.p 0 0), p := none, f := none }), (10, { dst := some 73, v := .one (.fn f [] [.v c1]), p := none, f := none }), (14, { dst := some 77, v := .one (.p 3 4), p := none, f := none })], by kernel_rfl, rfl, by kernel_rfl, by kernel_rfl, rfl, rfl, rfl, rfl, ?_⟩
 refine zam ({ s := hS, m := hM, k := 7, f := hF, b := 1 }) [7] rfl (by kernel_rfl) (by kernel_rfl) ⟨⟨rfl, rfl⟩, ⟨rfl, rfl⟩, ⟨rfl, rfl⟩, ⟨rfl, rfl⟩, ⟨rfl, rfl⟩, ⟨rfl, rfl⟩, ⟨rfl, rfl⟩, ⟨rfl, rfl⟩, ⟨rfl, rfl⟩, ⟨rfl, rfl⟩, trivial⟩ ⟨?_, trivial⟩
 refine ⟨_, rfl, rfl, _, rfl, ?_⟩
 refine zae (zh1 k (xs.length : Int) (Int.natCast_nonneg _)) (fun _ => rfl) (fun _ _ => trivial) ?_
 rintro r rfl
 refine zam ({ s := x7 :: hS, m := hM, k := 7, f := f7 :: hF, b := 1 }) [8] rfl (by kernel_rfl) (by kernel_rfl) ⟨⟨rfl, rfl⟩, ⟨rfl, rfl⟩, ⟨rfl, rfl⟩, ⟨rfl, rfl⟩, ⟨rfl, trivial⟩, ⟨rfl, trivial⟩, ⟨rfl, trivial⟩, ⟨rfl, rfl⟩, ⟨rfl, rfl⟩, ⟨rfl, rfl⟩, trivial⟩ ⟨?_, trivial⟩
 refine ⟨_, rfl, rfl, _, rfl, ?_⟩
 refine zam ({ s := x8 :: x7 :: hS, m := hM, k := 7, f := f7 :: hF, b := 1 }) [11] rfl (by kernel_rfl) (by kernel_rfl) ⟨⟨rfl, rfl⟩, ⟨rfl, rfl⟩, ⟨rfl, rfl⟩, ⟨rfl, trivial⟩, ⟨rfl, trivial⟩, ⟨rfl, trivial⟩, ⟨rfl, trivial⟩, ⟨rfl, rfl⟩, ⟨rfl, rfl⟩, ⟨rfl, rfl⟩, trivial⟩ ⟨?_, trivial⟩
 refine ⟨_, rfl, rfl, _, rfl, ?_⟩
 cases o1 with
 | none =>
  refine zab [0] hrec rfl ⟨rfl, trivial⟩ rfl rfl (fun w h => ⟨h.2.1.1.1, (h.2.1.1.2.arg hu).2⟩) (fun _ _ => ⟨rfl, rfl⟩) (fun _ _ => ?_)
  have e := hstepR.symm
  have e := hWR _ e
  subst e
  exact ⟨zba 0 0 ⟨#[]⟩, trivial, rfl, zaa [(0, .blk 0)] rfl rfl rfl rfl (leB rfl) (rs rfl rfl) trivial ⟨⟨Up.true, fun _ _ => trivial⟩, trivial⟩⟩
 | some q1 =>
 obtain ⟨u1, l2⟩ := q1
 refine zab [0] hrec rfl ⟨rfl, trivial⟩ rfl rfl (fun w h => ⟨h.2.1.1.1, (h.2.1.1.2.arg hu).2⟩) (fun x _ => ?_) (fun x hx => ?_)
 ·obtain ⟨vk, vn, vnm, vla, vlc, vls, vaa, vac, vus⟩ := x
  exact ⟨rfl, rfl⟩
 have hx : x.tm = u1 := hx
 have hnext : zja ((xs ++ [x]).map TT.tm) (zc3 φ k ((xs.length : Int) + 1) ((us.map TT.tm).drop (xs.length + 1)) d l2) = W0 := by
  rw [List.map_append, List.map_cons, List.map_nil, hx]
  exact hstepR.symm
 clear hstepR hx
 obtain ⟨vk, vn, vnm, vla, vlc, vls, vaa, vac, vus⟩ := x
 let x11 : Nat × SV := (74, ttA (TT.mk vk vn vnm vla vlc vls vaa vac vus))
 let m11a : Nat × LB := (0, .cells 3 [.v (.int .i64 l2)])
 let m11b : Nat × LB := (0, .dead)
 let f11 : World -> Prop := fun w => TTIn w (TT.mk vk vn vnm vla vlc vls vaa vac vus)
 let x12 : Nat × SV := (75, .one (.sl 7 0 1 1))
 let m12a : Nat × LB := (7, .cells 41 ((TT.mk vk vn vnm vla vlc vls vaa vac vus).cells.map SA.v))
 let x13 : Nat × SV := (76, .one (.row 8))
 let m13a : Nat × LB := (8, .own 41 5 (xs.length + 1) (ttsC xs ++ (TT.mk vk vn vnm vla vlc vls vaa vac vus).cells))
 let m13b : Nat × LB := (5, .dead)
 let m15a : Nat × LB := (3, .cells 41 [.v (.int .i64 k), .v (.int .i64 n), .v (.string s), .row 4, .row 8])
 refine zam ({ s := x11 :: x8 :: x7 :: hS, m := m11a :: m11b :: hM, k := 7, f := f11 :: f7 :: hF, b := 1 }) [12] rfl (by kernel_rfl) (by kernel_rfl) ⟨⟨rfl, rfl⟩, ⟨rfl, rfl⟩, ⟨rfl, trivial⟩, ⟨rfl, trivial⟩, ⟨rfl, trivial⟩, ⟨rfl, trivial⟩, ⟨rfl, trivial⟩, ⟨rfl, trivial⟩, ⟨rfl, trivial⟩, ⟨rfl, rfl⟩, trivial⟩ ⟨?_, trivial⟩
 refine ⟨_, rfl, rfl, _, rfl, ?_⟩
 refine zam ({ s := x12 :: x11 :: x8 :: x7 :: hS, m := m12a :: m11a :: m11b :: hM, k := 8, f := f11 :: f7 :: hF, b := 1 }) [13] rfl (by kernel_rfl) (by kernel_rfl) ⟨⟨rfl, rfl⟩, ⟨rfl, rfl⟩, ⟨rfl, trivial⟩, ⟨rfl, trivial⟩, ⟨rfl, trivial⟩, ⟨rfl, trivial⟩, ⟨rfl, trivial⟩, ⟨rfl, trivial⟩, ⟨rfl, trivial⟩, ⟨rfl, rfl⟩, trivial⟩ ⟨?_, trivial⟩
 refine ⟨_, rfl, rfl, _, rfl, ?_⟩
 refine ⟨{}, ⟨trivial, by decide, .inr rfl, hfit1, hfit2⟩, ?_⟩
 refine zam ({ s := x13 :: x12 :: x11 :: x8 :: x7 :: hS, m := m13a :: m13b :: m12a :: m11a :: m11b :: hM, k := 9, f := f11 :: f7 :: hF, b := 1 }) [15] rfl (by kernel_rfl) (by kernel_rfl) ⟨⟨rfl, trivial⟩, ⟨rfl, trivial⟩, ⟨rfl, trivial⟩, ⟨rfl, trivial⟩, ⟨rfl, trivial⟩, ⟨rfl, trivial⟩, ⟨rfl, trivial⟩, ⟨rfl, trivial⟩, ⟨rfl, trivial⟩, ⟨rfl, rfl⟩, trivial⟩ ⟨?_, trivial⟩
 refine ⟨_, rfl, rfl, _, rfl, ?_⟩
 refine zcm _ rfl (by kernel_rfl) ⟨⟨rfl, trivial⟩, ⟨rfl, trivial⟩, ⟨rfl, trivial⟩, ⟨rfl, trivial⟩, ⟨rfl, trivial⟩, ⟨rfl, trivial⟩, ⟨rfl, trivial⟩, ⟨rfl, trivial⟩, ⟨rfl, trivial⟩, ⟨rfl, trivial⟩, trivial⟩ ?_
 exact ⟨(xs ++ [(TT.mk vk vn vnm vla vlc vls vaa vac vus)], l2), ⟨by simp only [List.length_append, List.length_singleton]; omega, by simp only [List.length_append, List.length_singleton]; exact hnext⟩, by simp only [List.length_append, List.length_singleton]; omega, zaa [(0, .blk 0), (1, .blk 1), (2, .blk 2), (3, .blk 3), (4, .own 4), (5, .own 8)] rfl rfl rfl rfl (leB rfl) ⟨⟨_, rfl, rfl⟩, ⟨_, rfl, rfl⟩, ⟨_, rfl, rfl⟩, ⟨_, rfl, rfl⟩, ⟨_, rfl, rfl⟩, ⟨_, rfl, rfl⟩, ⟨_, rfl, rfl⟩, ⟨_, rfl, rfl⟩, ⟨_, rfl, by simp only [List.length_append, List.length_singleton]; exact oneI (za9 (by omega) (by omega))⟩, trivial⟩ ⟨⟨_, rfl, rfl⟩, ⟨_, rfl, rfl⟩, ⟨_, rfl, rfl⟩, ⟨_, rfl, rfl⟩, ⟨_, _, rfl, rfl, rfl⟩, ⟨_, _, rfl, by simp, by simp [ttsC]⟩, trivial⟩ ⟨⟨wG.up hpre _ _, fun w h => ⟨h.2.2.1.1, fun x hx => (List.mem_append.1 hx).elim (h.2.2.1.2 x) (fun hx => by rw [List.mem_singleton.1 hx]; exact h.1)⟩⟩, trivial⟩⟩
end Go.Proofs.YtmkpiekbpakigaaDoor
end
section
set_option linter.unusedVariables false
set_option linter.unusedSimpArgs false
namespace Go.Proofs.YtmkpiekbpakigaaDoor
open Go.RowKit Go.Proofs.Base Go.Proofs.Sym
def zxg (cs : List SA) (b : Bool) : LRes := { v := .tup [], m := [(0, .cells 41 cs), (1, .cells 4 [.v (.bool b)])], k := 2 }
theorem zgy (x0 x1 x2 x3 x4 : Value) (b : Bool) : zav Tryd.prog 124 [.one (.v .nilIface), .one (.p 0 0), .one (.p 1 0)] [(0, .cells 41 [.v x0, .v x1, .v x2, .v x3, .v x4]), (1, .cells 4 [.v (.bool b)])] 2 (fun _ => True) (fun _ : Unit => True) (fun _ => zxg [.v x0, .v x1, .v x2, .v x3, .v x4] b) := by
 refine zas zac 17 [] Tryd.func124 rfl rfl (by kernel_rfl) rfl _ (leB rfl) Up.true ?_
 refine zaf zac [] _ _ _ ?_
 refine ⟨_, rfl, (), trivial, rfl, ?_⟩
 exact zaa [(0, .blk 0), (1, .blk 1)] rfl rfl rfl rfl (Nat.le_refl _) ⟨⟨_, rfl, rfl⟩, trivial⟩ ⟨⟨_, rfl, rfl⟩, ⟨_, rfl, rfl⟩, trivial⟩ ⟨⟨Up.true, fun _ _ => trivial⟩, trivial⟩
def tab3 : Sym.Tab := { tab with u := (166, .struct #[]) :: tab.u }
theorem zxw : tab3.Ok Tryd.prog := ⟨zac.mixed, zac.ty, fun p hp => by
  rcases List.mem_cons.1 hp with rfl | hp
  ·kernel_rfl
  ·exact zac.u p hp, zac.fld, zac.eqs⟩
theorem zbv (x0 x1 x2 x3 x4 : Value) (b : Bool) : zav Tryd.prog 124 [.one (.v zju), .one (.p 0 0), .one (.p 1 0)] [(0, .cells 41 [.v x0, .v x1, .v x2, .v x3, .v x4]), (1, .cells 4 [.v (.bool b)])] 2 (fun _ => True) (fun _ : Unit => True) (fun _ => zxg zap false) := by
 refine zas zxw 17 [] Tryd.func124 rfl rfl (by kernel_rfl) rfl _ (leB rfl) Up.true ?_
 refine zaf zxw [] _ _ _ ?_
 refine ⟨_, rfl, (), trivial, rfl, ?_⟩
 exact zaa [(0, .blk 0), (1, .blk 1)] rfl rfl rfl rfl (Nat.le_refl _) ⟨⟨_, rfl, rfl⟩, trivial⟩ ⟨⟨_, rfl, rfl⟩, ⟨_, rfl, rfl⟩, trivial⟩ ⟨⟨Up.true, fun _ _ => trivial⟩, trivial⟩
theorem zza {st st' : St} (hs : ∀ i v, get i st'.s = some v -> get i st.s = some v) (hm : st'.m = st.m) (hk : st'.k = st.k) (hf : st'.f = st.f) (hb : st'.b = st.b) : Ent st st' :=
 ⟨fun cx e a w hS => ⟨e, ⟨by rw [hb]; exact hS.base, hS.size, hS.defers, fun i v hi => by rw [hk]; exact hS.slots i v (hs i v hi), by rw [hm, hk, hf]; exact hS.mem⟩⟩⟩
theorem zmy (args : Array Value) (w : World) : (callFunc 124 args).run Tryd.prog w = .ok (.enter 124 args) w := enters_of Tryd.func124 (by kernel_rfl) rfl args w
theorem zvk (args : Array Value) (w : World) : (callFunc 123 args).run Tryd.prog w = .ok (.enter 123 args) w := enters_of Tryd.func123 (by kernel_rfl) rfl args w
theorem zr3 (p1 p2 : Value) (w : World) (R : World -> Prop) (h : Calls Tryd.prog 124 #[.nilIface, p1, p2] w fun en w' => (∃ v, en = .returned v) /\ R w') :
  CallsD Tryd.prog 123 #[p1, p2] .returning w fun e u' w' => (∃ v, e = .returned v) /\ u' = .returning /\ R w' := by
 refine callsD_of_wpS Tryd.func123 rfl fun c₀ cs hu => ?_
 apply wpS_region
 simp [wpOpsS, go_sem, recoverD, hu, Tryd.ntmps123, zmy, Oper.upon]
 refine h.mono ?_
 rintro en w' ⟨⟨v, rfl⟩, hR⟩
 cases c₀
 simp_all [bodyPostS, results, Tryd.results123, wpOpsS]
theorem zpb (p1 p2 : Value) (w : World) (R : World -> Prop) (h : Calls Tryd.prog 124 #[zju, p1, p2] w fun en w' => (∃ v, en = .returned v) /\ R w') :
  CallsD Tryd.prog 123 #[p1, p2] (.panicking [{ v := zju, recovered := false }]) w fun e u' w' => (∃ v, e = .returned v) /\ u' = .panicking [{ v := zju, recovered := true }] /\ R w' := by
 refine callsD_of_wpS Tryd.func123 rfl fun c₀ cs hu => ?_
 apply wpS_region
 unfold zju at hu h ⊢
 simp [wpOpsS, go_sem, recoverD, hu, Tryd.ntmps123, zmy, Oper.upon]
 refine h.mono ?_
 rintro en w' ⟨⟨v, rfl⟩, hR⟩
 simp_all [bodyPostS, results, Tryd.results123, wpOpsS]
def mEnd {X : Type} (ok : X -> Prop) (ret : X -> LRes) (st : St) : Prop := ∃ v, zgl tab st [.cell 4 41, .cell 5 4] = some v /\ ∃ x, ok x /\ (ret x).ch = none /\ EntR { st with b := 0 } v (ret x)
def mK {X : Type} (ok : X -> Prop) (ret : X -> LRes) : Exit -> St -> Prop
 | .ret, st => zce Tryd.prog 124 [.one (.v .nilIface), .one (.p 1 0), .one (.p 2 0)] st (fun _ st' => mEnd ok ret st') (fun _ _ => False)
 | .panic ch, st => ch = znm /\ zce Tryd.prog 124 [.one (.v zju), .one (.p 1 0), .one (.p 2 0)] st (fun _ st' => mEnd ok ret st') (fun _ _ => False)
 | _, _ => False
theorem zvm {X : Type} {ok : X -> Prop} {ret : X -> LRes} {cx : Cx} {e : Env} {st : St} {a : Act} {w : World} (hn : cx.n = 18) (h : mEnd ok ret st) (hS : Sat cx e st a w) (cx0 : Cx) (h0 : cx0.w0 = cx.w0) (hG : cx0.G = cx.G) (hH : cx0.H = cx.H) (hn0 : cx0.n0 = 0) :
  ∃ v, (results Tryd.f79 a.tmps).run Tryd.prog w = .ok v w /\ ∃ e' x, ok x /\ Ending.returned v = (ret x).en e' /\ (ret x).v.lt (ret x).k /\ Mem cx0 e' (ret x).m (ret x).k [(ret x).F] w := by
 obtain ⟨v, hv, x, hx, hch, hE⟩ := h
 have hr := zg9 (fn := Tryd.f79) zac hS (v := v) hv
 have hlt := zph hS hv
 have hm : Mem cx0 e st.m st.k st.f w := by
  obtain ⟨w0, G, H, hHw, hGH, e0, n0, n, d⟩ := cx0
  obtain ⟨w0', G', H', hHw', hGH', e0', n0', n', d'⟩ := cx
  simp only at h0 hG hH hn0
  subst h0 hG hH hn0
  have g3 := hS.mem
  exact ⟨g3.fr, fun i hi => absurd hi (Nat.not_lt_zero _), Nat.zero_le _, g3.cells, g3.own, g3.sc, g3.free, g3.apart, g3.up, g3.facts⟩
 obtain ⟨e', g1, g2, g3⟩ := zlr hE hm hn0 hlt
 exact ⟨_, hr, e', x, hx, by unfold LRes.en; rw [hch, g1], g2, g3⟩
theorem zt0 {pre : World -> Prop} {X : Type} {ok : X -> Prop} {ret : X -> LRes} (hpre : Up pre) (t : TT) (Fv : SV)
  (h2 : ∀ c2, Tryd.f79.body.map (fun c => match c with | .seq _ (.seq _ c2) => c2 | _ => .skip) = some c2 -> zai Tryd.prog 18 c2 (mK ok ret) { s := [(7, .one (.fn 123 [] [.p 1, .p 2])), (2, .one (.p 0 0)), (4, .one (.p 1 0)), (5, .one (.p 2 0)), (1, Fv)], m := [(2, .cells 4 [.v (.bool false)]), (1, .cells 41 zap), (0, .cells 41 (t.cells.map SA.v))], k := 3, f := [pre], b := 3 }) :
  zav Tryd.prog 79 [ttA t, Fv] [] 0 pre ok ret := by
 obtain ⟨k, n, s, la, lc, ls, aa, ac, us⟩ := t
 refine ⟨hpre, fun cx e w hw0 hn0 he0 hm hlt => ⟨⟨_, Tryd.func79, by kernel_rfl, rfl⟩, calls_of_wp_defers Tryd.func79 rfl ?_⟩⟩
 have hc2 := h2 _ rfl
 have hm1 : Mem { cx with n := 18, d := [] } e [] 0 [pre] w := ⟨hm.fr, hm.ids, hm.low, hm.cells, hm.own, hm.sc, hm.free, hm.apart, hm.up, hm.facts⟩
 have hFv : Fv.lt 0 := hlt Fv (by simp)
 have hS0 : Sat { cx with n := 18, d := [] } e { s := [(0, ttA (TT.mk k n s la lc ls aa ac us)), (1, Fv)], m := [], k := 0, f := [pre], b := 0 } { tmps := ([ttA (TT.mk k n s la lc ls aa ac us), Fv].map (SV.real e)).toArray ++ Array.replicate (18 - ([ttA (TT.mk k n s la lc ls aa ac us), Fv].map (SV.real e)).toArray.size) undef, defers := [] } w := by
  refine ⟨hn0, by simp, rfl, fun i v hi => ?_, hm1⟩
  rcases zah hi with ⟨rfl, rfl⟩ | ⟨hne, hi⟩
  ·exact ⟨hlt _ (by simp), by simp⟩
  ·rcases zah hi with ⟨rfl, rfl⟩ | ⟨_, hi⟩
   ·exact ⟨hlt _ (by simp), by simp⟩
   ·cases hi
 have hreg0 : zai Tryd.prog 18 (match Tryd.f79.body with | some (.seq c _) => c | _ => .skip) (fun ex st' => match ex with | .normal => Ent st' { s := [(2, .one (.p 0 0)), (4, .one (.p 1 0)), (5, .one (.p 2 0)), (1, Fv)], m := [(2, .cells 4 [.v (.bool false)]), (1, .cells 41 zap), (0, .cells 41 ((TT.mk k n s la lc ls aa ac us).cells.map SA.v))], k := 3, f := [pre], b := 0 } | _ => False) { s := [(0, ttA (TT.mk k n s la lc ls aa ac us)), (1, Fv)], m := [], k := 0, f := [pre], b := 0 } := by
  refine zaf zac [] _ _ _ ?_
  refine zza (fun i v hi => ?_) rfl rfl rfl rfl
  rcases zah hi with ⟨rfl, rfl⟩ | ⟨_, hi⟩
  ·rfl
  rcases zah hi with ⟨rfl, rfl⟩ | ⟨_, hi⟩
  ·rfl
  rcases zah hi with ⟨rfl, rfl⟩ | ⟨_, hi⟩
  ·rfl
  rcases zah hi with ⟨rfl, rfl⟩ | ⟨_, hi⟩
  ·rfl
  cases hi
 refine wp_seq (wp_mono (hreg0.run _ e _ w rfl hS0) ?_)
 rintro ex a1 w1 ⟨e1, st1, hK, hS1⟩
 cases ex with
 | normal =>
  obtain ⟨e1, hS1⟩ := hK.run _ _ _ _ hS1
  -- the closure, and its deferral
  refine wp_seq (wp_region_list (wpList_step fun next hnext => ?_))
  rw [if_pos (zaz rfl _)]
  have hsig := zfc (o := { dst := some 7, op := .makeFunc (.func 123) #[] #[.tmp 4, .tmp 5], type := 1, pos := "move.go:75", after := #[], guard := none }) zac hS1
  have hsig : _ /\ _ := hsig
  obtain ⟨hl1, hx1⟩ := hsig
  have hS2 := zbq hS1 (Env.eqTo.refl _ _) (Nat.le_refl _) rfl rfl hl1 hS1.mem (some 7)
  unfold Oper.wp
  rw [hx1]
  refine hnext _ _ (wpList_step fun next2 hnext2 => ?_)
  rw [if_pos (zaz rfl _)]
  have h7 : (a1.put (some 7) (SV.real e1 (SV.one (SA.fn 123 [] [Cap.p 1, Cap.p 2])))).eval (.tmp 7) = .func (.func 123) #[] #[.pointer (some ⟨e1.blk 1, 0, none⟩), .pointer (some ⟨e1.blk 2, 0, none⟩)] := (hS2.ev (x := .tmp 7) (v := .one (.fn 123 [] [.p 1, .p 2])) rfl).2
  generalize hga : a1.put (some 7) (SV.real e1 (SV.one (SA.fn 123 [] [Cap.p 1, Cap.p 2]))) = a2 at h7 hS2
  have hd : (execOp a2.eval { dst := none, op := .defer { callee := .value (.tmp 7), args := #[], argTypes := #[] }, type := 0, pos := "move.go:75", after := #[{ on := 0, ground := .data }], guard := none }).run Tryd.prog w1 = .ok (.defer { target := .fn (.func 123) #[.pointer (some ⟨e1.blk 1, 0, none⟩), .pointer (some ⟨e1.blk 2, 0, none⟩)], args := #[] }) w1 := by
   simp [execOp, resolve, Deferred.ofValue, h7]
  unfold Oper.wp
  rw [hd]
  refine hnext2 _ _ (wpList_nil ?_)
  obtain ⟨cx2, hcx2⟩ : ∃ cx2 : Cx, cx2 = { w0 := cx.w0, G := cx.G, H := cx.H, hH := cx.hH, hG := cx.hG, e0 := e1, n0 := 3, n := 18, d := [{ target := .fn (.func 123) #[.pointer (some ⟨e1.blk 1, 0, none⟩), .pointer (some ⟨e1.blk 2, 0, none⟩)], args := #[] }] } := ⟨_, rfl⟩
  have hS3 : Sat cx2 e1 { s := [(7, .one (.fn 123 [] [.p 1, .p 2])), (2, .one (.p 0 0)), (4, .one (.p 1 0)), (5, .one (.p 2 0)), (1, Fv)], m := [(2, .cells 4 [.v (.bool false)]), (1, .cells 41 zap), (0, .cells 41 ((TT.mk k n s la lc ls aa ac us).cells.map SA.v))], k := 3, f := [pre], b := 3 } { tmps := a2.tmps, defers := { target := .fn (.func 123) #[.pointer (some ⟨e1.blk 1, 0, none⟩), .pointer (some ⟨e1.blk 2, 0, none⟩)], args := #[] } :: a2.defers } w1 := by
   subst hcx2
   refine ⟨rfl, hS2.size, ?_, hS2.slots, ⟨hS2.mem.fr, fun i _ => rfl, Nat.le_refl _, hS2.mem.cells, hS2.mem.own, hS2.mem.sc, hS2.mem.free, hS2.mem.apart, hS2.mem.up, hS2.mem.facts⟩⟩
   show _ :: a2.defers = _
   rw [hS2.defers]
  refine wp_mono (hc2.run cx2 e1 _ w1 (by rw [hcx2]) hS3) ?_
  have hdf : cx2.d = [{ target := .fn (.func 123) #[.pointer (some ⟨e1.blk 1, 0, none⟩), .pointer (some ⟨e1.blk 2, 0, none⟩)], args := #[] }] := by rw [hcx2]
  have hinv : ∀ w', (invoke (.fn (.func 123) #[.pointer (some ⟨e1.blk 1, 0, none⟩), .pointer (some ⟨e1.blk 2, 0, none⟩)]) #[]).run Tryd.prog w' = .ok (.enter 123 #[.pointer (some ⟨e1.blk 1, 0, none⟩), .pointer (some ⟨e1.blk 2, 0, none⟩)]) w' := fun w' => by
   simp [invoke, zvk]
  have hfinal : ∀ {e2 : Env} {st2 : St} {a3 : Act} {w3 : World} {x : Value}, Sat cx2 e2 st2 a3 w3 -> zce Tryd.prog 124 [.one (.v x), .one (.p 1 0), .one (.p 2 0)] st2 (fun _ st' => mEnd ok ret st') (fun _ _ => False) -> 3 <= st2.k ->
    Calls Tryd.prog 124 #[x, .pointer (some ⟨e1.blk 1, 0, none⟩), .pointer (some ⟨e1.blk 2, 0, none⟩)] w3 fun en w4 => (∃ v, en = .returned v) /\ ∃ v, (results Tryd.f79 a3.tmps).run Tryd.prog w4 = .ok v w4 /\ ∃ e' y, ok y /\ Ending.returned v = (ret y).en e' /\ (ret y).v.lt (ret y).k /\ Mem cx e' (ret y).m (ret y).k [(ret y).F] w4 := by
   intro e2 st2 a3 w3 x hS hC hk
   have he1 : e2.blk 1 = e1.blk 1 := by
    have := hS.mem.ids 1 (by rw [hcx2]; show 1 < 3; decide)
    rw [this, hcx2]
   have he2 : e2.blk 2 = e1.blk 2 := by
    have := hS.mem.ids 2 (by rw [hcx2]; show 2 < 3; decide)
    rw [this, hcx2]
   obtain ⟨_, hrun⟩ := hC.run cx2 e2 w3 hS.mem (fun y hy => by
    simp only [List.mem_cons, List.not_mem_nil, or_false] at hy
    rcases hy with rfl | rfl | rfl
    ·trivial
    ·show 1 < st2.k
     omega
    ·show 2 < st2.k
     omega)
   have hargs : ([SV.one (.v x), SV.one (.p 1 0), SV.one (.p 2 0)].map (SV.real e2)).toArray = #[x, .pointer (some ⟨e1.blk 1, 0, none⟩), .pointer (some ⟨e1.blk 2, 0, none⟩)] := by
    simp [SV.real, SA.real, he1, he2]
   rw [hargs] at hrun
   refine hrun.mono ?_
   rintro en w4 ⟨e4, st4, h1, h2, h3, h4, h5, ⟨v, rfl, hv, hE⟩ | ⟨ch, rfl, hX⟩⟩
   ·refine ⟨⟨_, rfl⟩, ?_⟩
    have hS4 := zd3 (v := .one (.v undef)) hS h3 h4 trivial h5 none
    exact zvm (by rw [hcx2]) hE hS4 cx (by rw [hcx2]) (by rw [hcx2]) (by rw [hcx2]) hn0
   ·exact hX.elim
  rintro ex a3 w3 ⟨e3, st3, hK3, hS3'⟩
  have hdef3 := hS3'.defers
  rw [hdf] at hdef3
  have hk3 : 3 <= st3.k := by
   have := hS3'.mem.low
   rw [hcx2] at this
   exact this
  cases ex with
  | ret =>
   show Leaves _ _ _ _ a3.defers .returning w3
   rw [hdef3]
   refine leaves_cons (by simp) (hinv w3) ?_
   refine (zr3 _ _ w3 _ (hfinal hS3' hK3 hk3)).mono ?_
   rintro e u' w' ⟨⟨v, rfl⟩, rfl, v2, hr, e', y, hy, hen, hlt, hM⟩
   exact ⟨v2, hr, e', y, hy, hen, hlt, hM⟩
  | panic ch =>
   obtain ⟨rfl, hK3⟩ := hK3
   show Leaves _ _ _ _ a3.defers (.panicking _) w3
   rw [hdef3]
   refine leaves_cons (by simp) (hinv w3) ?_
   refine (zpb _ _ w3 _ (hfinal hS3' hK3 hk3)).mono ?_
   rintro e u' w' ⟨⟨v, rfl⟩, rfl, v2, hr, e', y, hy, hen, hlt, hM⟩
   exact ⟨v2, hr, e', y, hy, hen, hlt, hM⟩
  | _ => exact hK3.elim
 | _ => exact hK.elim
end Go.Proofs.YtmkpiekbpakigaaDoor
end
