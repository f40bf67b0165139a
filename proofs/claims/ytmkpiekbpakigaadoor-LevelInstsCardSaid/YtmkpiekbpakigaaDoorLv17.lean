/- The walk of the statement LevelInsts. -/
import Derived.Test.YtmkpiekbpakigaaDoorLvP
import Derived.Test.YtmkpiekbpakigaaDoorSymK
import Derived.Test.YtmkpiekbpakigaaDoorLv16
import Derived.IntWalk
set_option linter.unusedVariables false
set_option linter.unusedSimpArgs false
namespace Go.Proofs.YtmkpiekbpakigaaDoor
open Go.RowKit Go.Proofs.Base Go.Proofs.Sym

def lvCells (l : Lv) : List Value := [.int .i64 l.b, .int .i64 l.p0, .int .i64 l.p1, .int .i64 l.p2, .int .i64 l.p3]
theorem lvCells_one (l : Lv) : ∀ v ∈ lvCells l, v.oneCell' = true := by
  intro v hv
  simp only [lvCells, List.mem_cons, List.not_mem_nil, or_false] at hv
  rcases hv with rfl | rfl | rfl | rfl | rfl <;> rfl
theorem lvRow_at {w : World} {A : Option Addr} {ls : List Lv} (h : LvRow w A ls) {k : Nat} {l : Lv} (hk : ls[k]? = some l) : ∃ a, A = some a ∧ ∀ j u, (lvCells l)[j]? = some u → w.cell? ((a.add (k * 5)).add j) = some u := by
  have hkl := (List.getElem?_eq_some_iff.1 hk).1
  obtain ⟨b, off, rfl, hc⟩ := h.2 (by omega)
  refine ⟨_, rfl, fun j u hj => ?_⟩
  obtain ⟨h0, h1, h2, h3, h4⟩ := hc k l hk
  rw [add_off, add_off]
  match j, hj with
  | 0, hj => cases hj; exact h0
  | 1, hj => cases hj; exact h1
  | 2, hj => cases hj; exact h2
  | 3, hj => cases hj; exact h3
  | 4, hj => cases hj; exact h4
  | j + 5, hj => simp [lvCells] at hj
def intCells (xs : List Int) : List Value := xs.map (Value.int .i64)
def intList (bs : List Lv) (xs : List Int) : List Int := bs.map fun b => b.value xs
theorem slAt_ints {w : World} {A : Option Addr} {xs : List Int} (hl : xs.length ≤ 9223372036854775807) (h : SlAt w A (intCells xs)) : IntRow w A xs := by
  refine ⟨hl, fun hp => ?_⟩
  have hc : ∀ j x, xs[j]? = some x → ∃ a, A = some a ∧ w.cell? (a.add j) = some (.int .i64 x) := fun j x hj => h j _ (by simp [intCells, hj])
  obtain ⟨a, rfl, h0⟩ := hc 0 _ (List.getElem?_eq_getElem hp)
  have hs : a.spot = none := by
    have : a.add 0 = a := rfl
    rw [this] at h0
    unfold World.cell? at h0
    cases hq : a.spot with
    | none => rfl
    | some s =>
      rw [hq] at h0
      split at h0 <;> simp at h0
  obtain ⟨b, off, sp⟩ := a
  simp only at hs
  subst hs
  refine ⟨b, off, rfl, fun j x hj => ?_⟩
  obtain ⟨a', h1, h2⟩ := hc j x hj
  cases h1
  rw [add_off] at h2
  exact h2
theorem wrap64_in {n : Int} (h0 : 0 ≤ n) (h1 : n ≤ 9223372036854775807) : IntKind.i64.wrap n = n := IntWalk.i64_in _ ⟨by omega, by omega⟩
theorem succ64 {k : Nat} (h : k + 1 ≤ 9223372036854775807) : SV.one (SA.v (.int .i64 (IntKind.i64.wrap ((k : Int) + 1)))) = SV.one (SA.v (.int .i64 ((k + 1 : Nat) : Int))) := by
  rw [wrap64_in (by omega) (by omega)]
  rfl
theorem row_last {bs : List Lv} {xs : List Int} {k : Nat} {b : Lv} (hb : bs[k]? = some b) : (intCells ((bs.take k).map fun b => b.value xs) ++ [.int .i64 (b.value xs)])[k * 1]? = some (.int .i64 (b.value xs)) := by
  have hl := (List.getElem?_eq_some_iff.1 hb).1
  rw [List.getElem?_append_right (by simp [intCells]; omega)]
  simp [intCells, Nat.min_eq_left (Nat.le_of_lt hl)]
section
variable (l : Lv) (A B : Option Addr) (bs : List Lv) (xs : List Int)
def instsPre (w : World) : Prop := LvRow w A bs ∧ IntRow w B xs ∧ Tab w
theorem instsPre.up : Up (instsPre A B bs xs) := (LvRow.up A bs).and ((IntRow.up B xs).and Tab.upS)
set_option maxHeartbeats 4000000 in
theorem insts_pc (n c m d : Nat) (hn : n = bs.length) (hm : m = xs.length) (hmd : m ≤ d) (hd : d ≤ 9223372036854775807) (hnb : n ≤ 9223372036854775807) :
    PCall Tryd.prog 5 [l.val, .slice A n c, .slice B m d] (instsPre A B bs xs) (fun r => r = .bool true) (fun _ _ => True) := by
  refine pcall_of tabOk 64 [.tmp 6] Tryd.func5 rfl rfl (by kernel_rfl) rfl _ (Nat.le_of_ble_eq_true rfl) (instsPre.up A B bs xs) (fun _ => Up.true) ?_
  refine svc_ok tabOk [15] _ _ _ ?_
  refine callVC_plain alive7_pc (fun _ => rfl) (fun _ h => h.1.2.2) ?_
  rintro r rfl
  refine bsplit_i (fun h30 => ?_) (fun h30 => ?_)
  · exact ⟨_, rfl, Told.val rfl⟩
  refine bsplit_i (fun h30' => ?_) (fun h30' => ?_)
  · exact ⟨_, rfl, Told.val rfl⟩
  obtain ⟨x, hx⟩ : ∃ x, x = (l.inst bs).1 := ⟨_, rfl⟩
  have hinst := inst_pc l A bs n c hn
  rcases Bool.eq_false_or_eq_true (l.inst bs).2 with hok | hok
  rotate_left
  · have hz := inst_none hok
    rw [hz, hok] at hinst
    refine callVC_plain hinst (fun _ => rfl) (fun _ h => h.2.1.1) ?_
    rintro r rfl
    exact ⟨_, rfl, Told.val rfl⟩
  rw [← hx, hok] at hinst
  obtain ⟨hxr, hlaw⟩ := inst_law (l := l) (bs := bs) (vals := xs) hok
  rw [← hx] at hxr hlaw
  clear hx hok
  refine callVC_plain hinst (fun _ => rfl) (fun _ h => h.2.1.1) ?_
  rintro r rfl
  refine ⟨⟨Nat, fun k => k ≤ n ∧ ∀ b ∈ bs.take k, b.value xs ≤ 1048576,
    fun k => { s := [(10, .one (.v (.int .i64 k))), (9, .one (.row 9)), (1, .one (.v (.slice A n c))), (2, .one (.v (.slice B m d))), (3, .one (.p 0 0)), (7, .one (.p 1 0))], m := [(9, .own 3 1 k (intCells ((bs.take k).map fun b => b.value xs))), (0, .cells 24 ((lvCells l).map SA.v)), (1, .cells 24 ((lvCells x).map SA.v))], k := 10, f := [instsPre A B bs xs] },
    fun k => n - k, ⟨0, ⟨Nat.zero_le _, by simp⟩, ?_⟩, ?_⟩⟩
  · refine ent_ren [(9, .lit 2 0), (0, .blk 0), (1, .blk 1)] rfl rfl rfl rfl (Nat.zero_le _) ?_ ?_ ?_
    · exact ⟨⟨_, rfl, rfl⟩, ⟨_, rfl, rfl⟩, ⟨_, rfl, rfl⟩, ⟨_, rfl, rfl⟩, ⟨_, rfl, rfl⟩, ⟨_, rfl, rfl⟩, trivial⟩
    · exact ⟨⟨rfl, by simp [maxLen], _, rfl, rfl, rfl⟩, ⟨_, rfl, rfl⟩, ⟨_, rfl, rfl⟩, trivial⟩
    · exact ⟨⟨instsPre.up A B bs xs, fun w h => h.2.2.1⟩, trivial⟩
  rintro k ⟨hk, hsm⟩
  refine bsplit_i (fun hlt => ?_) (fun hge => ?_)
  · have hlt : k < n := by
      have := of_decide_eq_true hlt
      omega
    have hfit1 : k + 1 ≤ maxLen := by
      have := of_decide_eq_false h30
      simp only [maxLen]
      omega
    have hfit2 : (k + 1) * 8 ≤ 140737488355328 := by
      have := of_decide_eq_false h30
      omega
    obtain ⟨b, hb⟩ : ∃ b, bs[k]? = some b := ⟨_, List.getElem?_eq_getElem (by omega)⟩
    refine ⟨{ n := k }, ⟨rfl, hlt, fun w h => ?_⟩, ?_⟩
    · obtain ⟨a, ha, _⟩ := lvRow_at h.1.1 hb
      rw [ha]
      rfl
    refine ⟨{ cs := lvCells b }, ⟨lvCells_one b, rfl, fun w h => ?_⟩, ?_⟩
    · obtain ⟨a, ha, hc⟩ := lvRow_at h.1.1 hb
      exact ⟨_, by rw [ha]; rfl, hc⟩
    refine callVC_plain (value_pc b B xs m d hm hmd hd) (fun _ => rfl) (fun _ h => h.1.2.1) ?_
    rintro r rfl
    refine ⟨{}, ⟨trivial, Nat.one_pos, .inr rfl, hfit1, hfit2⟩, ?_⟩
    refine ⟨{ n := k }, ⟨rfl, Nat.lt_succ_self k, rfl⟩, ?_⟩
    refine ⟨{ v := .int .i64 (b.value xs) }, row_last hb, ?_⟩
    refine bsplit_i (fun hv => ?_) (fun hv => ?_)
    · exact ⟨_, rfl, Told.val rfl⟩
    have hv : ¬ 1048576 < b.value xs := of_decide_eq_false hv
    refine ⟨k + 1, ⟨hlt, ?_⟩, by simp only; omega, ?_⟩
    · intro q hq
      rw [List.take_add_one, hb, List.mem_append] at hq
      rcases hq with hq | hq
      · exact hsm q hq
      · have hq : q = b := by simpa using hq
        rw [hq]
        omega
    · refine ent_ren [(9, .own 11), (0, .blk 0), (1, .blk 1)] rfl rfl rfl rfl (Nat.le_of_ble_eq_true rfl) ?_ ?_ ?_
      · exact ⟨⟨_, rfl, succ64 (by omega)⟩, ⟨_, rfl, rfl⟩, ⟨_, rfl, rfl⟩, ⟨_, rfl, rfl⟩, ⟨_, rfl, rfl⟩, ⟨_, rfl, rfl⟩, trivial⟩
      · refine ⟨⟨_, _, rfl, rfl, ?_⟩, ⟨_, rfl, rfl⟩, ⟨_, rfl, rfl⟩, trivial⟩
        show _ ++ _ = _
        rw [List.take_add_one, hb]
        simp [intCells]
      · exact ⟨⟨instsPre.up A B bs xs, fun w h => h.2.1⟩, trivial⟩
  · have hkn : k = n := by
      have := of_decide_eq_false hge
      omega
    subst hkn
    have htk : bs.take k = bs := List.take_of_length_le (by omega)
    rw [htk] at hsm
    refine Walks.freeze 9 rfl fun A' cp h1 h2 h3 => ?_
    refine svc_ok tabOk [] _ _ _ ?_
    have hlen : (intList bs xs).length ≤ 9223372036854775807 := by
      rw [intList, List.length_map]
      omega
    have hright : PCall Tryd.prog 16 [x.val] (fun _ => True) (fun r => r = .bool true) (fun _ _ => True) := hxr ▸ right_pc x
    have hval1 := value_pc x B xs m d hm hmd hd
    have hval2 := value_pc l A' (intList bs xs) k cp (by rw [intList, List.length_map]; exact hn) h2 h3
    have hlaw := hlaw hsm
    change _ = l.value (intList bs xs) at hlaw
    rw [← hlaw] at hval2
    refine ⟨12, [0, 1, 3, 7, 7, 31, 7, 7, 255, 511, 1023, 2047], fun vs j => match j with
      | 1 => { R := fun r => r = .bool true, nf := fun _ => .bool true }
      | 5 => { pre := fun w => IntRow w B xs, R := fun r => r = .int .i64 (x.value xs), nf := fun _ => .int .i64 (x.value xs) }
      | 8 => { pre := fun w => IntRow w A' (intList bs xs), R := fun r => r = .int .i64 (x.value xs), nf := fun _ => .int .i64 (x.value xs) }
      | _ => {}, by kernel_rfl, rfl, by kernel_rfl, by kernel_rfl, by kernel_rfl, by decide, fun vals => ?_⟩
    refine ⟨fun _ => ⟨hright, fun _ _ => trivial, fun _ h => h⟩, ?_⟩
    refine ⟨fun _ => ⟨hval1, fun _ h => h.2.2.1.2.1, fun _ h => h⟩, ?_⟩
    refine ⟨fun _ => ⟨hval2, fun _ h => slAt_ints hlen (by rw [htk] at h; exact h.2.2.1), fun _ h => h⟩, ?_⟩
    intro hp
    refine ⟨_, rfl, Told.val ?_⟩
    show Value.bool _ = _
    simp
end
/-- The walk of LevelInsts. -/
theorem insts_true (l : Lv) (A : Option Addr) (bs : List Lv) (w : World) (n c : Nat) (B : Option Addr) (xs : List Int) (m d : Nat) (h1 : LvRow w A bs) (h2 : n = bs.length) (h3 : n ≤ c) (h4 : c ≤ 9223372036854775807)
    (g1 : IntRow w B xs) (g2 : m = xs.length) (g3 : m ≤ d) (g4 : d ≤ 9223372036854775807) (ht : Tab w) :
    Calls Tryd.prog 5 #[l.val, .slice A n c, .slice B m d] w fun e w' => e = .returned (.bool true) ∧ Below w.heap.size w w' :=
  ((insts_pc l A B bs xs n c m d h2 g2 g3 g4 (by omega)).run w (fun _ => False) (fun _ h => h.elim) (instsPre.up A B bs xs _ _ (fun g o hg ho => by rw [hide_get, hg]; simp) ⟨h1, g1, ht⟩)).mono fun en w' ⟨r, h1, h2, _, h4⟩ => ⟨by rw [h1, h2], h4⟩
end Go.Proofs.YtmkpiekbpakigaaDoor
