/- Contracts of the functions of layer 7: String. -/
import Derived.Test.YtmkpiekbpakigaaDoorLv7
import Derived.Test.YtmkpiekbpakigaaDoorShelf
import Derived.Lib.AppendIntMem
import Derived.Lib.ItoaLen
import Derived.WalkSmall
import Derived.Lib.LaidTab
import Derived.Laws.AppendOwnNone
set_option linter.unusedVariables false
set_option linter.unusedSimpArgs false
namespace Go.Proofs.YtmkpiekbpakigaaDoor
open Go.RowKit Go.Proofs.Base Go.Proofs.Mono

def Tab (w : World) : Prop := Lib.TabIs Tryd.prog w "internal/strconv.uint64pow10" .u64 Lib.pow10Tab
theorem Tab.bel {w w' : World} (h : Tab w) (hb : Below w.heap.size w w') : Tab w' := by
  unfold Tab Lib.TabIs at *
  have hg : Tryd.prog.globalNamed "internal/strconv.uint64pow10" = some 0 := by kernel_rfl
  unfold World.var? at h
  simp only [hg, Option.bind_some] at h
  have hlt : 0 < w.heap.size := by
    cases hh : w.heap[0]? with
    | none => rw [hh] at h; simp at h
    | some o => exact (Array.getElem?_eq_some_iff.1 hh).1
  exact var?_below hb hg hlt (by unfold World.var?; simp only [hg, Option.bind_some]; exact h)
theorem itoa_any (n : Int) (h0 : 0 ≤ n) (h1 : n ≤ 1000000) (w : World) (ht : Tab w) : Calls Tryd.prog 52 #[.int .i64 n] w fun e w' => e = .returned (.string ⟨(Lib.itoa n).toArray⟩) ∧ Below w.heap.size w w' :=
  (Tryd.strconv_Itoa n (by omega) (by omega) w ht).mono fun e w' ⟨he, k, os, hw⟩ => ⟨he, by rw [hw]; exact Lib.below_grow _ _ (Nat.le_refl _) _ _⟩

def uPart (k : Nat) (p : Int) : List UInt8 := 117 :: (Lib.itoa k ++ if p = 0 then [] else 43 :: Lib.itoa p)
def Lv.partsGo (l : Lv) : Nat → List (List UInt8)
  | 0 => []
  | k + 1 => if l.p k < 0 then l.partsGo k else l.partsGo k ++ [uPart k (l.p k)]
def Lv.toldGo (l : Lv) : Nat → Bool
  | 0 => false
  | k + 1 => l.toldGo k || l.p k == l.b
def Lv.full (l : Lv) : List (List UInt8) := (if l.toldGo 4 = true then [] else [Lib.itoa l.b]) ++ l.partsGo 4
def Lv.text (l : Lv) : List UInt8 := if l.right = true then Lib.join l.full [32, 124, 32] else []

def strs (xs : List (List UInt8)) : List Value := xs.map fun x => .string ⟨x.toArray⟩

structure StrSt (w : World) (l : Lv) (k : Nat) (v : Value) (wr : World) : Prop where
  own : wr.ownsRow (w.heap.size + 1) 9 1 v (l.partsGo k).length (strs (l.partsGo k))
  me : Blk wr w.heap.size 24 #[.int .i64 l.b, .int .i64 l.p0, .int .i64 l.p1, .int .i64 l.p2, .int .i64 l.p3]
  bel : Below w.heap.size w wr

theorem ixk (l : Lv) (k : Nat) (hk : k < 4) (w : World) : (Instr.index 22 (.agg #[.int .i64 l.p0, .int .i64 l.p1, .int .i64 l.p2, .int .i64 l.p3]) (.int .i64 (k : Int))).run Tryd.prog w = .ok (.int .i64 (l.p k)) w := by
  have h := ix w l.p0 l.p1 l.p2 l.p3
  match k, hk with
  | 0, _ => exact h.1
  | 1, _ => exact h.2.1
  | 2, _ => exact h.2.2.1
  | 3, _ => exact h.2.2.2
theorem partsGo_len (l : Lv) : ∀ k, (l.partsGo k).length ≤ k
  | 0 => by simp [Lv.partsGo]
  | k + 1 => by
    have := partsGo_len l k
    rw [Lv.partsGo]
    split
    · omega
    · simp; omega
theorem u1 (x : List UInt8) : (⟨#[117]⟩ : ByteArray) ++ ⟨x.toArray⟩ = ⟨(117 :: x).toArray⟩ := ByteArray.mk_append_mk [117] x
theorem u2 (x y : List UInt8) : (⟨#[117]⟩ : ByteArray) ++ ⟨x.toArray⟩ ++ ⟨#[43]⟩ ++ ⟨y.toArray⟩ = ⟨(117 :: (x ++ 43 :: y)).toArray⟩ := by
  rw [u1]
  have h1 : (⟨(117 :: x).toArray⟩ : ByteArray) ++ ⟨#[43]⟩ = ⟨((117 :: x) ++ [43]).toArray⟩ := ByteArray.mk_append_mk (117 :: x) [43]
  rw [h1, ByteArray.mk_append_mk]
  simp
theorem itoa_len (n : Int) (h0 : 0 ≤ n) (h1 : n ≤ 1000000) : (Lib.itoa n).length ≤ 21 := Lib.itoa_length_le n (by omega) (by omega)
theorem info9 : (Tryd.prog.info? 9).map (fun i => (i.zero, i.size, i.bytes)) = some (some (.string ⟨#[]⟩), 1, 16) := by kernel_rfl

theorem lens_le (M : Nat) : ∀ xs : List (List UInt8), (∀ x ∈ xs, x.length ≤ M) → Lib.lens xs ≤ M * xs.length
  | [], _ => by simp [Lib.lens]
  | x :: xs, h => by
    have h1 := h x List.mem_cons_self
    have h2 := lens_le M xs (fun y hy => h y (List.mem_cons_of_mem _ hy))
    simp only [Lib.lens, List.map_cons, List.sum_cons, List.length_cons] at h2 ⊢
    rw [Nat.mul_succ]
    omega
theorem join_len {M : Nat} {xs : List (List UInt8)} {sep : List UInt8} (h : ∀ x ∈ xs, x.length ≤ M) : (Lib.join xs sep).length ≤ (sep.length + M) * xs.length := by
  cases xs with
  | nil => simp [Lib.join_nil]
  | cons x r =>
    rw [Lib.join_length]
    have h2 := lens_le M (x :: r) h
    simp only [List.length_cons] at h2 ⊢
    rw [Nat.add_mul]
    have : sep.length * r.length ≤ sep.length * (r.length + 1) := Nat.mul_le_mul_left _ (by omega)
    omega
theorem join_own {w : World} {base : Nat} {v : Value} {xs : List (List UInt8)} (n : Nat) (hn : n = xs.length) (sep : List UInt8) (h : w.ownsRow base 9 1 v n (strs xs)) (hx : ∀ x ∈ xs, x.length ≤ 100) (hl : xs.length ≤ 1000) (hs : sep.length ≤ 100) :
    Calls Tryd.prog 53 #[v, .string ⟨sep.toArray⟩] w fun e w' => e = .returned (.string ⟨(Lib.join xs sep).toArray⟩) ∧ Below w.heap.size w w' := by
  subst hn
  have none_ : ∀ a c, xs = [] → Calls Tryd.prog 53 #[.slice a 0 c, .string ⟨sep.toArray⟩] w fun e w' => e = .returned (.string ⟨(Lib.join xs sep).toArray⟩) ∧ Below w.heap.size w w' := by
    rintro a c rfl
    exact (Tryd.strings_Join_none a c ⟨sep.toArray⟩ w).mono fun e w' ⟨he, hw⟩ => ⟨he, by rw [hw]; exact Below.refl _ _⟩
  rcases h.2 with ⟨rfl, h0⟩ | ⟨g, cap, cur, rfl, hb, hh, h1, h2, h3, h4⟩
  · exact none_ _ _ (List.eq_nil_of_length_eq_zero h0)
  · rcases Nat.eq_zero_or_pos xs.length with h0 | h0
    · rw [h0]
      exact none_ _ _ (List.eq_nil_of_length_eq_zero h0)
    · have hjl := join_len (sep := sep) hx
      have hmul : (sep.length + 100) * xs.length ≤ 200 * 1000 := Nat.mul_le_mul (by omega) hl
      have hmap : ((xs.map fun x => (⟨x.toArray⟩ : ByteArray)).map (·.data.toList)) = xs := by simp [Function.comp_def]
      have := Tryd.strings_Join g 0 cap (xs.map fun x => ⟨x.toArray⟩) ⟨sep.toArray⟩ w (fun j x hj => by
        have hc := h.cellAt j (by rw [List.getElem?_map] at hj; cases hq : xs[j]? with | none => rw [hq] at hj; simp at hj | some y => have := (List.getElem?_eq_some_iff.1 hq).1; omega)
        rw [Nat.zero_add, hc]
        unfold strs
        rw [List.getElem?_map] at hj ⊢
        cases hq : xs[j]? with
        | none => rw [hq] at hj; simp at hj
        | some y =>
          rw [hq] at hj
          simp only [Option.map_some, Option.some.injEq] at hj ⊢
          rw [hj]) (Array.getElem?_eq_some_iff.1 hh).1 (by simp; omega) (by simpa using h1) (by rw [hmap]; simp only [List.toList_toArray]; omega)
      rw [List.length_map, hmap] at this
      simpa using this
theorem parts_len (l : Lv) (hp : ∀ k, l.p k ≤ 100) : ∀ k, k ≤ 4 → ∀ x ∈ l.partsGo k, x.length ≤ 100
  | 0, _ => by simp [Lv.partsGo]
  | k + 1, hk => by
    intro x hx
    have ih := parts_len l hp k (by omega)
    rw [Lv.partsGo] at hx
    split at hx
    · exact ih x hx
    · rcases List.mem_append.1 hx with h | h
      · exact ih x h
      · rw [List.mem_singleton.1 h]
        unfold uPart
        have h1 := itoa_len (k : Int) (by omega) (by omega)
        have h2 := itoa_len (l.p k) (by omega) (by have := hp k; omega)
        split <;> simp <;> omega
theorem p_le (l : Lv) (h : l.right = true) : ∀ k, l.p k ≤ 100 := by
  obtain ⟨⟨a1, a2⟩, ⟨a3, a4⟩, ⟨a5, a6⟩, ⟨a7, a8⟩, a9, a10⟩ := Lv.right_bd h
  intro k
  match k with
  | 0 => exact Int.le_trans a2 a10
  | 1 => exact Int.le_trans a4 a10
  | 2 => exact Int.le_trans a6 a10
  | k + 3 => exact Int.le_trans a8 a10

section
variable (l : Lv) (w : World)
set_option maxRecDepth 20000 in
set_option maxHeartbeats 4000000 in
theorem string_yes (hr : l.right = true) (ht : Tab w) :
    Calls Tryd.prog 19 #[.agg #[.int .i64 l.b, .int .i64 l.p0, .int .i64 l.p1, .int .i64 l.p2, .int .i64 l.p3]] w fun e w' =>
      e = .returned (.string ⟨(Lib.join l.full [32, 124, 32]).toArray⟩) ∧ Below w.heap.size w w' := by
  obtain ⟨⟨a1, a2⟩, ⟨a3, a4⟩, ⟨a5, a6⟩, ⟨a7, a8⟩, a9, a10⟩ := Lv.right_bd hr
  have HPL := Lib.hid (parts_len l (p_le l hr) 4 (Nat.le_refl _))
  have hr2 : Lv.right ⟨l.b, l.p0, l.p1, l.p2, l.p3⟩ = true := hr
  have HT := Lib.hid ht
  clear hr ht
  go_enter Tryd.func19, Tryd.ntmps19
  go_wp2_with fail
  refine (right_any _ _ _ _ _ _).mono ?_
  rintro e w1 ⟨rfl, hb⟩
  have hB1 := (Blk.new _ _ _).bel hb
  have hbw := bstep (B := w.heap.size) (a := w) (by go_grown) hb (by simp)
  have hz : w.heap.size < w1.heap.size := hB1.lt
  obtain ⟨d0, d1, d2, d3, d4, df⟩ := hB1.cells5
  have HB1 := Lib.hid hB1
  have HBW := Lib.hid hbw
  clear hb hB1 hbw
  go_wp2
  go_loopw [3, 4, 12] (fun v told i wr => ∃ k : Nat, k ≤ 4 ∧ i = .int .i64 k ∧ told = .bool (l.toldGo k) ∧ StrSt w l k v wr) (fun _ _ i _ => 4 - (intOf i).toNat)
  case atStart => exact ⟨0, by omega, rfl, rfl, ⟨World.ownsRow_nil _ _ _ _, HB1.out, HBW.out⟩⟩
  case round =>
    clear d0 d1 d2 d3 d4 df HB1 HBW hz
    obtain ⟨k, hk, rfl, rfl, hst⟩ := hrel
    obtain ⟨d0, d1, d2, d3, d4, df⟩ := hst.me.cells5
    have hz : w.heap.size < wr.heap.size := hst.me.lt
    by_cases hlt : k < 4
    · have hix := ixk l k hlt
      obtain ⟨told, htold⟩ : ∃ t, t = l.toldGo k := ⟨_, rfl⟩
      rw [← htold]
      have hstep : l.toldGo (k + 1) = (told || l.p k == l.b) := by rw [Lv.toldGo, htold]
      have HTO := Lib.hid hstep
      have HST := Lib.hid hst
      clear hst hstep htold
      rcases Int.lt_trichotomy (l.p k) 0 with hp | hp | hp
      · have hp2 : ¬ (0 < l.p k) := by omega
        have hp3 : (l.p k == 0) = false := by rw [beq_eq_false_iff_ne]; omega
        have hparts : l.partsGo (k + 1) = l.partsGo k := by rw [Lv.partsGo, if_pos hp]
        have HPA := Lib.hid hparts
        clear hparts hp
        cases told
        all_goals
          go_wp2
          refine ⟨⟨k + 1, by omega, by go_num, by rw [HTO.out]; simp, ?_⟩, by simp [intOf]; omega⟩
          exact ⟨by rw [HPA.out]; exact HST.out.own, HST.out.me, HST.out.bel⟩
      · have hp3 : (l.p k == 0) = true := by rw [beq_iff_eq]; exact hp
        have hparts : l.partsGo (k + 1) = l.partsGo k ++ [uPart k (l.p k)] := by rw [Lv.partsGo, if_neg (by omega)]
        have hup : uPart k (l.p k) = 117 :: Lib.itoa k := by unfold uPart; rw [if_pos hp, List.append_nil]
        have HPA := Lib.hid hparts
        have HUP := Lib.hid hup
        clear hparts hup hp
        have hpl := partsGo_len l k
        have hlk := itoa_len k (by omega) (by omega)
        cases told
        all_goals
          go_wp2_with fail
          refine (itoa_any _ (by omega) (by omega) _ (HT.out.bel HST.out.bel)).mono ?_
          rintro e w5 ⟨rfl, hb⟩
          have hown := own_bel HST.out.own hb
          have hme := Blk.bel HST.out.me hb
          have hbw := bstep HST.out.bel hb (by omega)
          have hz5 : w.heap.size < w5.heap.size := hme.lt
          clear hb
          have HOWN := Lib.hid hown
          have HME := Lib.hid hme
          have HBW := Lib.hid hbw
          clear hown hme hbw
          go_wp2_with (at_builtin; obtain ⟨i0, hi, hz0, hz1, hz2⟩ := info_parts info9; refine wpList_append_own _ rfl _ _ 75 rfl (w.heap.size + 1) 9 i0 (.string ⟨#[]⟩) 1 16 Tryd.underlying75 hi hz0 hz1 hz2 rfl (by decide) _ _ _ rfl (HOWN.out.alloc _) ⟨_, 0, none⟩ 1 1 [_] rfl rfl (news1 (Blk.new _ _ _)) (ones _) ?_ ?_ ?_ ?_; (simp only [maxLen]; omega); omega; (rw [World.size_alloc]; omega); clear hi hz0 hz1 hz2 i0; intro v' w6 hown' hgrow _)
          have hrow : ∀ k, u3.ownBlock = some k → w.heap.size + 1 ≤ k := fun k hk => (HOWN.out.lt k hk).1
          refine ⟨⟨k + 1, by omega, by go_num, by rw [HTO.out]; simp, ?_⟩, by simp [intOf]; omega⟩
          refine ⟨?_, (HME.out.alloc _).grown hgrow (fun e => by have := hrow _ e.symm; omega), (HBW.out.alloc (by omega) _).grown hgrow (by rw [World.size_alloc]; omega) (fun k e => by have := hrow _ e; omega)⟩
          rw [HPA.out, List.length_append, HUP.out]
          rw [u1] at hown'
          simpa [strs] using hown'
      · have hp2 : 0 < l.p k := hp
        have hpb : l.p k ≤ 100 := by
          have : l.p k ≤ l.b := by
            match k, hlt with
            | 0, _ => exact a2
            | 1, _ => exact a4
            | 2, _ => exact a6
            | 3, _ => exact a8
          omega
        have hp3 : (l.p k == 0) = false := by rw [beq_eq_false_iff_ne]; omega
        have hparts : l.partsGo (k + 1) = l.partsGo k ++ [uPart k (l.p k)] := by rw [Lv.partsGo, if_neg (by omega)]
        have hup : uPart k (l.p k) = 117 :: (Lib.itoa k ++ 43 :: Lib.itoa (l.p k)) := by unfold uPart; rw [if_neg (by omega)]
        have HPA := Lib.hid hparts
        have HUP := Lib.hid hup
        clear hparts hup hp
        have hpl := partsGo_len l k
        have hlk := itoa_len k (by omega) (by omega)
        have hlp := itoa_len (l.p k) (by omega) (by omega)
        cases told
        all_goals
          go_wp2_with fail
          refine (itoa_any _ (by omega) (by omega) _ (HT.out.bel HST.out.bel)).mono ?_
          rintro e w5 ⟨rfl, hb⟩
          have hown := own_bel HST.out.own hb
          have hme := Blk.bel HST.out.me hb
          have hbw := bstep HST.out.bel hb (by omega)
          have hz5 : w.heap.size < w5.heap.size := hme.lt
          clear hb
          have HOWN1 := Lib.hid hown
          have HME1 := Lib.hid hme
          have HBW1 := Lib.hid hbw
          clear hown hme hbw
          go_wp2_with fail
          refine (itoa_any _ (by omega) (by omega) _ (HT.out.bel HBW1.out)).mono ?_
          rintro e w7 ⟨rfl, hb⟩
          have hown := own_bel HOWN1.out hb
          have hme := Blk.bel HME1.out hb
          have hbw := bstep HBW1.out hb (by omega)
          have hz7 : w.heap.size < w7.heap.size := hme.lt
          clear hb
          have HOWN := Lib.hid hown
          have HME := Lib.hid hme
          have HBW := Lib.hid hbw
          clear hown hme hbw
          go_wp2_with (at_builtin; obtain ⟨i0, hi, hz0, hz1, hz2⟩ := info_parts info9; refine wpList_append_own _ rfl _ _ 75 rfl (w.heap.size + 1) 9 i0 (.string ⟨#[]⟩) 1 16 Tryd.underlying75 hi hz0 hz1 hz2 rfl (by decide) _ _ _ rfl (HOWN.out.alloc _) ⟨_, 0, none⟩ 1 1 [_] rfl rfl (news1 (Blk.new _ _ _)) (ones _) ?_ ?_ ?_ ?_; (simp only [maxLen]; omega); omega; (rw [World.size_alloc]; omega); clear hi hz0 hz1 hz2 i0; intro v' w6 hown' hgrow _)
          have hrow : ∀ k, u3.ownBlock = some k → w.heap.size + 1 ≤ k := fun k hk => (HOWN.out.lt k hk).1
          refine ⟨⟨k + 1, by omega, by go_num, by rw [HTO.out]; simp, ?_⟩, by simp [intOf]; omega⟩
          refine ⟨?_, (HME.out.alloc _).grown hgrow (fun e => by have := hrow _ e.symm; omega), (HBW.out.alloc (by omega) _).grown hgrow (by rw [World.size_alloc]; omega) (fun k e => by have := hrow _ e; omega)⟩
          rw [HPA.out, List.length_append, HUP.out]
          rw [u2] at hown'
          simpa [strs] using hown'
    · obtain rfl : k = 4 := by omega
      have HST := Lib.hid hst
      clear hst
      cases htold : l.toldGo 4
      · have hfull : l.full = Lib.itoa l.b :: l.partsGo 4 := by unfold Lv.full; rw [htold]; rfl
        have HF := Lib.hid hfull
        clear hfull htold
        go_wp2_with fail
        refine (itoa_any _ a9 (by omega) _ (HT.out.bel HST.out.bel)).mono ?_
        rintro e w5 ⟨rfl, hb⟩
        have hown := own_bel HST.out.own hb
        have hbw := bstep HST.out.bel hb (by omega)
        clear hb d0 d1 d2 d3 d4 df
        have HBW := Lib.hid hbw
        have hpl4 := partsGo_len l 4
        have hsz5 : w.heap.size ≤ w5.heap.size := by have := hbw.size; exact this
        clear hbw hz
        have hlit : (w5.alloc (.cells #[.string ⟨(Lib.itoa l.b).toArray⟩] 9)).ownsRow w5.heap.size 9 1 (.slice (some ⟨w5.heap.size, 0, none⟩) 1 1) 1 (strs [Lib.itoa l.b]) := World.ownsRow_lit (base := w5.heap.size) (e := 9) (size := 1) w5 #[.string ⟨(Lib.itoa l.b).toArray⟩] 1 (Nat.le_refl _) (by simp [maxLen]) rfl
        have hfl : ∀ x ∈ Lib.itoa l.b :: l.partsGo 4, x.length ≤ 100 := by
          intro x hx
          rcases List.mem_cons.1 hx with rfl | hx
          · have := itoa_len l.b a9 (by omega)
            omega
          · exact HPL.out x hx
        have HFL := Lib.hid hfl
        have HLIT := Lib.hid hlit
        have HOWN := Lib.hid hown
        clear hlit hfl
        rcases hown.2 with ⟨rfl, h0⟩ | ⟨g, cap, cur, rfl, hgb, hh, h1, h2, h3, h4⟩
        · have hp0 := List.eq_nil_of_length_eq_zero h0
          have HP0 := Lib.hid hp0
          clear hown h0 hp0
          go_wp2_with (at_builtin; obtain ⟨i0, hi, hz0, hz1, hz2⟩ := info_parts info9; refine wpList_append_own_none rfl _ _ 75 rfl w5.heap.size 9 i0 1 Tryd.underlying75 hi _ 1 _ rfl HLIT.out rfl ?_; clear hi hz0 hz1 hz2 i0)
          have hj : (w5.alloc (.cells #[.string ⟨(Lib.itoa l.b).toArray⟩] 9)).ownsRow w5.heap.size 9 1 (.slice (some ⟨w5.heap.size, 0, none⟩) 1 1) 1 (strs (Lib.itoa l.b :: l.partsGo 4)) := by rw [HP0.out]; exact HLIT.out
          have hl1 : 1 = (Lib.itoa l.b :: l.partsGo 4).length := by rw [HP0.out]; rfl
          refine (join_own _ hl1 [32, 124, 32] hj HFL.out (by simp; omega) (by simp)).mono ?_
          rintro e w7 ⟨rfl, hb⟩
          have HBW2 := Lib.hid (bstep (HBW.out.alloc hsz5 _) hb (by simp; omega))
          clear hb hj hl1
          go_wp2
          go_ret
          exact ⟨by rw [HF.out]; rfl, HBW2.out⟩
        · have hnews : ∀ o : Obj, ∀ j u, (strs (l.partsGo 4))[j]? = some u → (w5.alloc o).cell? ((⟨g, 0, none⟩ : Addr).add j) = some u := fun o => (HOWN.out.alloc o).cells (by simp [Value.ownBlock])
          have HNEWS := Lib.hid hnews
          have hone : ∀ u ∈ strs (l.partsGo 4), u.oneCell' = true := by
            intro u hu
            simp only [strs, List.mem_map] at hu
            obtain ⟨x, _, rfl⟩ := hu
            rfl
          have HONE := Lib.hid hone
          clear hown hh h1 h2 h3 h4 hnews hone
          go_wp2_with (at_builtin; obtain ⟨i0, hi, hz0, hz1, hz2⟩ := info_parts info9; refine wpList_append_own _ rfl _ _ 75 rfl w5.heap.size 9 i0 (.string ⟨#[]⟩) 1 16 Tryd.underlying75 hi hz0 hz1 hz2 rfl (Nat.lt_succ_self 0) (.slice (some ⟨w5.heap.size, 0, none⟩) 1 1) 1 (strs [Lib.itoa l.b]) rfl HLIT.out ⟨g, 0, none⟩ (l.partsGo 4).length cap (strs (l.partsGo 4)) rfl ?_ ?_ ?_ ?_ ?_ ?_ ?_; (simp [strs]); exact HNEWS.out _; exact HONE.out; (simp only [maxLen]; omega); omega; (rw [World.size_alloc]; omega); clear hi hz0 hz1 hz2 i0; intro v' w6 hown' hgrow _)
          have hj : w6.ownsRow w5.heap.size 9 1 v' (1 + (l.partsGo 4).length) (strs (Lib.itoa l.b :: l.partsGo 4)) := hown'
          have hl1 : 1 + (l.partsGo 4).length = (Lib.itoa l.b :: l.partsGo 4).length := by simp; omega
          refine (join_own _ hl1 [32, 124, 32] hj HFL.out (by simp; omega) (by simp)).mono ?_
          rintro e w7 ⟨rfl, hb⟩
          have hbg := (HBW.out.alloc hsz5 (.cells #[.string ⟨(Lib.itoa l.b).toArray⟩] 9)).grown hgrow (by rw [World.size_alloc]; omega) (fun k e => by have := Option.some.inj (show some w5.heap.size = some k from e); omega)
          have HBW2 := Lib.hid (bstep hbg hb hbg.size)
          clear hb hj hl1 hbg hown' hgrow
          go_wp2
          go_ret
          exact ⟨by rw [HF.out]; rfl, HBW2.out⟩
      · have hfull : l.full = l.partsGo 4 := by unfold Lv.full; rw [htold]; rfl
        have HF := Lib.hid hfull
        clear hfull htold
        have hpl4 := partsGo_len l 4
        go_wp2_with fail
        refine (join_own _ rfl [32, 124, 32] HST.out.own HPL.out (by omega) (by simp)).mono ?_
        rintro e w5 ⟨rfl, hb⟩
        have HBW := Lib.hid (bstep HST.out.bel hb (by omega))
        clear hb
        go_wp2
        go_ret
        exact ⟨by rw [HF.out]; rfl, HBW.out⟩
end
end Go.Proofs.YtmkpiekbpakigaaDoor
