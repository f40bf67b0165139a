/- Opening of the arguments with their weights: how long the slices of terms and declarations are. -/
import Derived.Test.YtmkpiekbpakigaaGreatDoorRm
set_option linter.unusedVariables false
set_option linter.unusedSimpArgs false
namespace Go.Proofs.YtmkpiekbpakigaaGreatDoor
open Go.ChangeShapes Go.WideShapes Go.ChangeAt Go.RowKit Go.Proofs.Base Go.Proofs.Sym

mutual
/-- A term's slices are no longer than memory. -/
def TTB : TT → Prop
  | .mk _ _ _ _ _ ls _ _ args => ls.length * 40 ≤ reachBytes ∧ args.length * 80 ≤ reachBytes ∧ TTBs args
def TTBs : List TT → Prop
  | [] => True
  | t :: r => TTB t ∧ TTBs r
end
theorem ttbs_of : ∀ (ts : List TT), (∀ t ∈ ts, TTB t) → TTBs ts
  | [], _ => by unfold TTBs; trivial
  | t :: r, h => by
    unfold TTBs
    exact ⟨h t List.mem_cons_self, ttbs_of r fun u hu => h u (List.mem_cons_of_mem _ hu)⟩
theorem ttbs_mem {t : TT} : ∀ {ts : List TT}, TTBs ts → t ∈ ts → TTB t
  | u :: r, h, hm => by
    unfold TTBs at h
    rcases List.mem_cons.1 hm with rfl | hm
    · exact h.1
    · exact ttbs_mem h.2 hm
structure DDB (d : DD) : Prop where
  ty : TTB d.ty
  val : TTB d.val
  len : d.cts.length * 96 ≤ reachBytes
  cts : ∀ c ∈ d.cts, TTB c.2
section
variable {H : Type} {enc : TypeId × Value → H} {w : World} {base : Nat} {sp : Nat → Bool} {held : Bool}
def WtOk (t : TypeId) (d : DataW H) : Prop := ∀ n ∈ d.weights Tryz.prog t, n ≤ reachBytes
theorem weightsAll_mem {e : TypeId} {n : Nat} {d : DataW H} : ∀ {ds : List (DataW H)}, d ∈ ds → n ∈ d.weights Tryz.prog e → n ∈ DataW.weightsAll Tryz.prog e ds
  | x :: r, hd, hn => by
    rw [DataW.weightsAll]
    rcases List.mem_cons.1 hd with rfl | hd
    · exact List.mem_append.2 (.inl hn)
    · exact List.mem_append.2 (.inr (weightsAll_mem hd hn))
theorem weightsEach_get {n : Nat} {t : TypeId} {d : DataW H} : ∀ {ts : List TypeId} {ds : List (DataW H)} {j : Nat}, ts[j]? = some t → ds[j]? = some d → n ∈ d.weights Tryz.prog t → n ∈ DataW.weightsEach Tryz.prog ts ds
  | x :: ts, y :: ds, 0, h1, h2, hn => by
    simp only [List.getElem?_cons_zero, Option.some.injEq] at h1 h2
    subst h1 h2
    rw [DataW.weightsEach]
    exact List.mem_append.2 (.inl hn)
  | x :: ts, y :: ds, j + 1, h1, h2, hn => by
    rw [DataW.weightsEach]
    exact List.mem_append.2 (.inr (weightsEach_get (j := j) (by simpa using h1) (by simpa using h2) hn))
theorem row_wt {α : Type} {e t : TypeId} {z y : Nat} (C : α → List Value) (In : α → Prop) (ht : Tryz.prog.underlying t = some (.slice e)) (hz : Tryz.prog.cellsOf e = z) (hy : Tryz.prog.bytesOf e = y) (hC : ∀ a, (C a).length = z) {fuel : Nat} {cs : List Value} {x : DataW H × List MemPlace}
    (h : DataW.trod enc Tryz.prog w base sp held fuel t cs = some x) (hw : WtOk t x.1) (ih : ∀ n, n < fuel → ∀ cs x, DataW.trod enc Tryz.prog w base sp held n e cs = some x → WtOk e x.1 → ∃ a, cs = C a ∧ In a) :
    ∃ (A : Option Addr) (c : Nat) (us : List α), cs = [.slice A us.length c] ∧ us.length ≤ c ∧ c ≤ maxLen ∧ (A = none → us.length = 0 ∧ c = 0) ∧ us.length * y ≤ reachBytes ∧ ∀ j a, us[j]? = some a → (∃ ad, A = some ad ∧ ∀ l u, (C a)[l]? = some u → w.cell? ((ad.add (j * z)).add l) = some u) ∧ In a := by
  rcases DataW.trod_slice ht h with ⟨hcs, -⟩ | ⟨a, len, cap, elems, rest, n, hfu, hcs, hx, _, hl, hm, hlen, hel, _, _⟩
  · exact ⟨none, 0, [], hcs, Nat.le_refl _, Nat.zero_le _, fun _ => ⟨rfl, rfl⟩, by simp, fun j a hj => by simp at hj⟩
  · have hx1 : x.1 = .slice (elems.map (·.1)) (rest.map (·.1)) := by rw [hx]
    unfold WtOk at hw
    rw [hx1, DataW.weights, ht] at hw
    simp only at hw
    obtain ⟨us, h1, h2⟩ := choose_list (Q := fun j y => (∀ i c, (C y)[i]? = some c → w.cell? ((a.add (j * z)).add i) = some c) ∧ In y) len fun j hj => by
      have h3 := hel j hj
      have hj' : j < elems.length := by omega
      rw [List.getElem?_eq_getElem hj', hz] at h3
      obtain ⟨cs', h4, h5⟩ := Option.bind_eq_some_iff.1 h3
      obtain ⟨y, rfl, hy⟩ := ih n (by omega) _ _ h5 (fun q hq => hw q (List.mem_cons_of_mem _ (List.mem_append.2 (.inl (weightsAll_mem (List.mem_map.2 ⟨_, List.getElem_mem hj', rfl⟩) hq)))))
      obtain ⟨_, h6, h7⟩ := World.cells?_some h4
      refine ⟨y, fun i c hi => ?_, hy⟩
      rw [h7 i (by have := (List.getElem?_eq_some_iff.1 hi).1; rw [hC] at this; exact this), hi]
    refine ⟨some a, cap, us, by rw [hcs, h1], by omega, hm, fun h => (by cases h), ?_, fun j y hj => ?_⟩
    · have h3 := hw _ List.mem_cons_self
      rw [hy, List.length_map, hlen] at h3
      rw [h1]
      exact Nat.le_trans (Nat.mul_le_mul_right _ (Nat.le_add_right _ _)) h3
    · obtain ⟨h3, h4⟩ := h2 j y hj
      exact ⟨⟨a, rfl, h3⟩, h4⟩
theorem struct_wt {t : TypeId} {fs : Array Field} {ds : List (DataW H)} (ht : Tryz.prog.underlying t = some (.struct fs)) (hw : WtOk t (.agg ds)) {j : Nat} {f : Field} {d : DataW H} (hf : (fs.toList.map (·.type))[j]? = some f.type) (hd : ds[j]? = some d) : WtOk f.type d := by
  intro n hn
  refine hw n ?_
  rw [DataW.weights, ht]
  exact weightsEach_get hf hd hn
theorem bytes24 : Tryz.prog.bytesOf 102 = 40 := by kernel_rfl
theorem bytes41 : Tryz.prog.bytesOf 25 = 80 := by kernel_rfl
theorem bytes93 : Tryz.prog.bytesOf 75 = 96 := by kernel_rfl
theorem bytes44 : Tryz.prog.bytesOf 38 = 224 := by kernel_rfl
theorem levels_wt {fuel : Nat} {cs : List Value} {x : DataW H × List MemPlace} (h : DataW.trod enc Tryz.prog w base sp held fuel 22 cs = some x) (hw : WtOk 22 x.1) :
    ∃ (A : Option Addr) (c : Nat) (ls : List Lv), cs = [.slice A ls.length c] ∧ ls.length ≤ c ∧ c ≤ maxLen ∧ (A = none → ls.length = 0 ∧ c = 0) ∧ LvRow w A ls ∧ ls.length * 40 ≤ reachBytes := by
  obtain ⟨A, c, ls, h1, h2, h3, h4, h5⟩ := levels_cells h
  obtain ⟨A', c', ls', h1', _, _, _, h6, _⟩ := row_wt Lv.cells (fun _ => True) Tryz.underlying22 cells24 bytes24 (fun _ => rfl) h hw (fun n _ cs x hx _ => by
    obtain ⟨l, hl, _⟩ := level_cells hx
    exact ⟨l, hl, trivial⟩)
  refine ⟨A, c, ls, h1, h2, h3, h4, h5, ?_⟩
  rw [h1] at h1'
  simp only [List.cons.injEq, Value.slice.injEq, and_true] at h1'
  rw [h1'.2.1]
  exact h6
set_option maxRecDepth 100000 in
/-- Five cells that read as a term, with their weights. -/
theorem term_wt : ∀ (fuel : Nat) (cs : List Value) (x : DataW H × List MemPlace), DataW.trod enc Tryz.prog w base sp held fuel 25 cs = some x → WtOk 25 x.1 → ∃ t : TT, cs = t.cells ∧ (TTIn w t ∧ TTB t) := by
  intro fuel
  induction fuel using Nat.strongRecOn with
  | _ fuel ih =>
  intro cs x h hw
  obtain ⟨ys, m, hfu, hx, hl, hlen, hf⟩ := DataW.trod_struct Tryz.underlying25 h
  match ys, hlen with
  | [y0, y1, y2, y3, y4], _ =>
    have h0 := hf 0 _ rfl
    have h1 := hf 1 _ rfl
    have h2 := hf 2 _ rfl
    have h3 := hf 3 _ rfl
    have h4 := hf 4 _ rfl
    rw [hx] at hw
    have w3 := struct_wt Tryz.underlying25 hw (j := 3) (d := y3.1) rfl rfl
    have w4 := struct_wt Tryz.underlying25 hw (j := 4) (d := y4.1) rfl rfl
    rw [cells41] at hl
    match cs, hl with
    | [c0, c1, c2, c3, c4], _ =>
      simp [cells3, cells9, cells32, cells39] at h0 h1 h2 h3 h4
      obtain ⟨k, e0, _, s0⟩ := DataW.trod_int Tryz.underlying3 h0
      obtain ⟨n, e1, _, s1⟩ := DataW.trod_int Tryz.underlying3 h1
      obtain ⟨s, e2, _, s2⟩ := DataW.trod_string Tryz.underlying9 h2
      obtain ⟨la, lc, ls, e3, g1, g2, g3, g4, gw⟩ := levels_wt h3 w3
      obtain ⟨aa, ac, us, e4, g5, g6, g7, gv, g8⟩ := row_wt TT.cells (fun t => TTIn w t ∧ TTB t) Tryz.underlying23 cells41 bytes41 TT.cells_len h4 w4 (fun n hn cs x hx hw => ih n (by omega) cs x hx hw)
      simp only [List.cons.injEq, and_true] at e0 e1 e2 e3 e4
      subst e0 e1 e2 e3 e4
      refine ⟨.mk k n s la lc ls aa ac us, rfl, ?_, ?_⟩
      · unfold TTIn
        refine ⟨⟨i64_of s0, i64_of s1, s2, g4, g3, g1, g2, g7, g5, g6⟩, tts_at us 0 fun i t hi => ?_⟩
        rw [Nat.zero_add]
        obtain ⟨q1, q2⟩ := g8 i t hi
        exact ⟨q1, q2.1⟩
      · unfold TTB
        refine ⟨gw, gv, ttbs_of us fun t ht => ?_⟩
        obtain ⟨i, hi, e⟩ := List.getElem_of_mem ht
        exact (g8 i t (by rw [← e]; exact List.getElem?_eq_getElem hi)).2.2
set_option maxRecDepth 100000 in
theorem con_wt {fuel : Nat} {cs : List Value} {x : DataW H × List MemPlace} (h : DataW.trod enc Tryz.prog w base sp held fuel 75 cs = some x) (hw : WtOk 75 x.1) : ∃ c : ByteArray × TT, cs = ctCells c ∧ ((TTIn w c.2 ∧ c.1.size ≤ maxLen) ∧ TTB c.2) := by
  obtain ⟨ys, m, hfu, hx, hl, hlen, hf⟩ := DataW.trod_struct Tryz.underlying75 h
  match ys, hlen with
  | [y0, y1], _ =>
    have h0 := hf 0 _ rfl
    have h1 := hf 1 _ rfl
    rw [hx] at hw
    have w1 := struct_wt Tryz.underlying75 hw (j := 1) (d := y1.1) rfl rfl
    rw [cells93] at hl
    match cs, hl with
    | [c0, c1, c2, c3, c4, c5], _ =>
      simp [cells9, cells41] at h0 h1
      obtain ⟨s, e0, _, s0⟩ := DataW.trod_string Tryz.underlying9 h0
      obtain ⟨t, e1, ht, hb⟩ := term_wt _ _ _ h1 w1
      simp only [List.cons.injEq, and_true] at e0
      subst e0
      exact ⟨(s, t), by rw [ctCells, ← e1], ⟨ht, s0⟩, hb⟩
set_option maxRecDepth 100000 in
theorem decl_wt {fuel : Nat} {cs : List Value} {x : DataW H × List MemPlace} (h : DataW.trod enc Tryz.prog w base sp held fuel 38 cs = some x) (hw : WtOk 38 x.1) : ∃ d : DD, cs = d.cells ∧ (DDIn w d ∧ DDB d) := by
  obtain ⟨ys, m, hfu, hx, hl, hlen, hf⟩ := DataW.trod_struct Tryz.underlying38 h
  match ys, hlen with
  | [y0, y1, y2, y3, y4, y5, y6], _ =>
    have h0 := hf 0 _ rfl
    have h1 := hf 1 _ rfl
    have h2 := hf 2 _ rfl
    have h3 := hf 3 _ rfl
    have h4 := hf 4 _ rfl
    have h5 := hf 5 _ rfl
    have h6 := hf 6 _ rfl
    rw [hx] at hw
    have w3 := struct_wt Tryz.underlying38 hw (j := 3) (d := y3.1) rfl rfl
    have w4 := struct_wt Tryz.underlying38 hw (j := 4) (d := y4.1) rfl rfl
    have w6 := struct_wt Tryz.underlying38 hw (j := 6) (d := y6.1) rfl rfl
    rw [cells44] at hl
    match cs, hl with
    | [c0, c1, c2, c3, c4, c5, c6, c7, c8, c9, c10, c11, c12, c13, c14], _ =>
      simp [cells3, cells9, cells41, cells42] at h0 h1 h2 h3 h4 h5 h6
      obtain ⟨k, e0, _, s0⟩ := DataW.trod_int Tryz.underlying3 h0
      obtain ⟨p, e1, _, s1⟩ := DataW.trod_int Tryz.underlying3 h1
      obtain ⟨s, e2, _, s2⟩ := DataW.trod_string Tryz.underlying9 h2
      obtain ⟨ty, e3, ht, bt⟩ := term_wt _ _ _ h3 w3
      obtain ⟨vl, e4, hv, bv⟩ := term_wt _ _ _ h4 w4
      obtain ⟨fx, e5, _, s5⟩ := DataW.trod_int Tryz.underlying3 h5
      obtain ⟨ca, cc, cts, e6, g1, g2, g3, gw, g4⟩ := row_wt ctCells (fun c => (TTIn w c.2 ∧ c.1.size ≤ maxLen) ∧ TTB c.2) Tryz.underlying36 cells93 bytes93 ctCells_len3 h6 w6 (fun n hn cs x hx hw => con_wt hx hw)
      simp only [List.cons.injEq, and_true] at e0 e1 e2 e5 e6
      subst e0 e1 e2 e5 e6
      refine ⟨⟨k, p, s, ty, vl, fx, ca, cc, cts⟩, ?_, ⟨i64_of s0, i64_of s1, s2, ht, hv, i64_of s5, fun j c hj => ?_, g3, g1, g2⟩, ⟨bt, bv, gw, fun c hc => ?_⟩⟩
      · rw [DD.cells]
        simp only
        rw [← e3, ← e4]
        rfl
      · obtain ⟨a, b⟩ := g4 j c hj
        exact ⟨a, b.1⟩
      · obtain ⟨i, hi, e⟩ := List.getElem_of_mem hc
        exact (g4 i c (by rw [← e]; exact List.getElem?_eq_getElem hi)).2.2
set_option maxRecDepth 100000 in
theorem decls_wt_open {r : Reach} {b0 : Nat} {v : Value} {d : DataW H} {ps : List MemPlace} (hval : Value.okWide Tryz.prog w r b0 26 v) (h : DataW.Trod enc Tryz.prog w base sp held 26 v d ps) (hw : WtOk 26 d) :
    ∃ (A : Option Addr) (c : Nat) (ds : List DD), v = .slice A ds.length c ∧ DsIn w A c ds ∧ ∀ d ∈ ds, DDB d := by
  obtain ⟨A, len, cap, rfl⟩ := okWide_slice Tryz.underlying26 hval
  obtain ⟨fuel, hf⟩ := h
  obtain ⟨A', c', ds, e, g1, g2, g3, gw, g4⟩ := row_wt DD.cells (fun d => DDIn w d ∧ DDB d) Tryz.underlying26 cells44 bytes44 dd_len' hf hw (fun n hn cs x hx hw => decl_wt hx hw)
  simp [Value.cells] at e
  obtain ⟨rfl, rfl, rfl⟩ := e
  refine ⟨_, _, ds, rfl, ⟨fun j d hj => ⟨(g4 j d hj).1, (g4 j d hj).2.1⟩, g3, g1, g2⟩, fun d hd => ?_⟩
  obtain ⟨i, hi, e⟩ := List.getElem_of_mem hd
  exact (g4 i d (by rw [← e]; exact List.getElem?_eq_getElem hi)).2.2
end
end Go.Proofs.YtmkpiekbpakigaaGreatDoor
