/- The reference's num (45), text (53), level (94). -/
import Derived.Test.YtmkpiekbpakigaaGreatDoorRg
set_option linter.unusedVariables false
set_option linter.unusedSimpArgs false
namespace Go.Proofs.YtmkpiekbpakigaaGreatDoor
open Go.RowKit Go.Proofs.Base Go.Proofs.Sym

/-- The digits, from the last one. -/
def rdg : Nat → Nat → List Nat
  | 0, _ => []
  | c + 1, n => if n = 0 then [] else rdg c (n / 256) ++ [n % 256]
theorem rdg_zero : ∀ c, rdg c 0 = []
  | 0 => rfl
  | c + 1 => by rw [rdg, if_pos rfl]
theorem rdg_digs (n : Nat) : ∀ c, c ≤ 6 → digs n c = rdg c (n / 256 ^ (6 - c))
  | 0, _ => rfl
  | c + 1, h => by
    have e1 : 6 - (c + 1) = 5 - c := by omega
    have e2 : 6 - c = 5 - c + 1 := by omega
    rw [digs, rdg_digs n c (by omega), rdg, e1, e2, Nat.pow_succ, ← Nat.div_div_eq_div_mul]
    obtain ⟨q, hq⟩ : ∃ q, n / 256 ^ (5 - c) = q := ⟨_, rfl⟩
    rw [hq]
    by_cases h0 : q = 0
    · rw [if_pos h0, if_neg (by omega), h0, Nat.zero_div, rdg_zero]
      rfl
    · rw [if_neg h0, if_pos (by omega)]
theorem rdg_len : ∀ c n, (rdg c n).length ≤ c
  | 0, _ => Nat.le_refl _
  | c + 1, n => by
    have := rdg_len c (n / 256)
    rw [rdg]
    split
    · simp
    · rw [List.length_append, List.length_singleton]; omega
theorem bc_one (l : List Nat) : ∀ u ∈ bc l, u.oneCell' = true := by
  intro u hu
  obtain ⟨q, _, rfl⟩ := List.mem_map.1 hu
  rfl
theorem u8_nat {x : Nat} (h : x < 256) : IntKind.u8.wrap (x : Int) = (x : Int) := by
  have h2 : IntKind.u8.wrap (x : Int) = (x : Int) % 256 := by simp [IntKind.wrap, IntKind.signed, IntKind.bits]
  rw [h2]
  omega
theorem rem_nat (m : Nat) : IntKind.u8.wrap ((m : Int).tmod 256) = ((m % 256 : Nat) : Int) := by
  rw [show (m : Int).tmod 256 = ((m % 256 : Nat) : Int) from by rw [Int.tmod_eq_emod_of_nonneg (Int.natCast_nonneg m)]; rfl, u8_nat (Nat.mod_lt _ (by decide))]
theorem quo_nat {m : Nat} (h : m ≤ 1099511627776) : IntKind.i64.wrap ((m : Int).tdiv 256) = ((m / 256 : Nat) : Int) := by
  have e : (m : Int).tdiv 256 = ((m / 256 : Nat) : Int) := by rw [Int.tdiv_eq_ediv_of_nonneg (Int.natCast_nonneg m)]; rfl
  rw [e, wrapI (by omega) (by omega)]
structure NX where
  c : Nat
  m : Nat
  acc : List Nat
  A : Option Addr
  cp : Nat
set_option maxHeartbeats 2000000 in
theorem numR_lc (n : Nat) (hn : n ≤ 1099511627776) : LCall Tryz.prog 45 [.one (.v (.int .i64 (n : Int)))] [] 0 (fun _ => True) (fun _ : Unit => True) (fun _ => rowRes (numB n)) := by
  have hd : digs n 6 = rdg 6 n := by
    have := rdg_digs n 6 (Nat.le_refl _)
    simpa using this
  have hnum : numB n = (rdg 6 n).length :: rdg 6 n := by rw [numB, hd]
  have hlen := rdg_len 6 n
  rw [hnum]
  clear hnum hd
  obtain ⟨D, hD⟩ : ∃ D, rdg 6 n = D := ⟨_, rfl⟩
  rw [hD] at hlen ⊢
  refine lcall_of tabOk 21 [.tmp 2] Tryz.func45 rfl rfl (by kernel_rfl) rfl _ (Nat.le_of_ble_eq_true rfl) Up.true ?_
  refine svc_ok tabOk [2, 4] _ _ _ ?_
  refine Walks.blk 0 rfl rfl (fun g => ?_)
  refine Walks.ent (st' := { s := [(0, .one (.v (.int .i64 (n : Int)))), (3, .one (.v (.slice (some ⟨g, 0, none⟩) 0 0)))], m := [], k := 0, f := [fun w => BtIn w (some ⟨g, 0, none⟩) 0 []] }) (ent_ren [] rfl rfl rfl rfl (Nat.zero_le _) ⟨⟨_, rfl, rfl⟩, ⟨_, rfl, rfl⟩, trivial⟩ trivial ⟨⟨BtIn.up _ _ _, fun w h => bt_of (l := []) h.1 (fun h => by cases h) (by decide) (by decide)⟩, trivial⟩) ?_
  refine svc_ok tabOk [4] _ _ _ ?_
  refine ⟨⟨NX, fun x => rdg x.c x.m ++ x.acc = D ∧ x.m < 256 ^ x.c ∧ x.m ≤ 1099511627776 ∧ (x.A = none → x.acc.length = 0 ∧ x.cp = 0),
    fun x => { s := [(0, .one (.v (.int .i64 (x.m : Int)))), (3, .one (.v (.slice x.A x.acc.length x.cp)))], m := [], k := 0, f := [fun w => BtIn w x.A x.cp x.acc] },
    fun x => x.m, ⟨⟨6, n, [], some ⟨g, 0, none⟩, 0⟩, ⟨by rw [hD, List.append_nil], Nat.lt_of_le_of_lt hn (show 1099511627776 < 256 ^ 6 by decide), hn, fun h => (by cases h)⟩, ?_⟩, ?_⟩⟩
  · exact ent_ren [] rfl rfl rfl rfl (Nat.zero_le _) ⟨⟨_, rfl, rfl⟩, ⟨_, rfl, rfl⟩, trivial⟩ trivial ⟨⟨BtIn.up _ _ _, fun w h => h.1⟩, trivial⟩
  rintro ⟨c, m, acc, A, cp⟩ ⟨hx, hm, hmle, hA0⟩
  simp only at hx hm hmle hA0
  have hal : acc.length ≤ 6 := by
    have := congrArg List.length hx
    rw [List.length_append] at this
    omega
  refine bsplit_i (fun hgt => ?_) (fun hle => ?_)
  rotate_left
  · have hle : m = 0 := by
      have h : decide ((0 : Int) < (m : Int)) = false := hle
      have := of_decide_eq_false h
      omega
    rw [hle, rdg_zero, List.nil_append] at hx
    subst hx
    refine ⟨{ cs := bc acc }, ⟨⟨by rw [bc_len]; exact (Nat.mul_one _).symm, bc_one acc, hA0, fun w h => h.1.cells⟩, Nat.one_pos, .inr rfl, ?_, ?_⟩, ?_⟩
    · show 1 + acc.length ≤ maxLen
      simp only [maxLen]; omega
    · show (1 + acc.length) * 1 ≤ _
      omega
    refine ⟨_, rfl, (), trivial, rfl, ?_⟩
    exact ent_ren [(0, .own 1)] rfl rfl rfl rfl (Nat.zero_le _) ⟨⟨_, rfl, rfl⟩, trivial⟩ ⟨⟨_, _, rfl, (by simp only [List.length_cons]; omega), (by rw [u8_nat (show acc.length < 256 by omega)]; rfl)⟩, trivial⟩ ⟨⟨Up.true, fun _ _ => trivial⟩, trivial⟩
  have hgt2 : 0 < m := by
    have h : decide ((0 : Int) < (m : Int)) = true := hgt
    have := of_decide_eq_true h
    omega
  clear hgt
  have hgt := hgt2
  clear hgt2
  obtain ⟨c', rfl⟩ : ∃ c', c = c' + 1 := ⟨c - 1, by
    rcases c with _ | c
    · simp at hm
      omega
    · omega⟩
  rw [rdg, if_neg (by omega), List.append_assoc] at hx
  have hm2 : m / 256 < 256 ^ c' := by
    rw [Nat.pow_succ] at hm
    exact Nat.div_lt_of_lt_mul (by omega)
  refine ⟨{}, ⟨by decide, rfl⟩, ?_⟩
  refine ⟨{ cs := bc acc }, ⟨⟨by rw [bc_len]; exact (Nat.mul_one _).symm, bc_one acc, hA0, fun w h => h.1.cells⟩, Nat.one_pos, .inr rfl, ?_, ?_⟩, ?_⟩
  · show 1 + acc.length ≤ maxLen
    simp only [maxLen]; omega
  · show (1 + acc.length) * 1 ≤ _
    omega
  refine Walks.freeze 1 rfl (fun B d g1 g2 g3 => ?_)
  refine Walks.ent (st' := { s := [(0, .one (.v (.int .i64 (m : Int)))), (3, .one (.v (.slice B (1 + acc.length) d)))], m := [], k := 0, f := [fun w => BtIn w B d (m % 256 :: acc)] }) (ent_ren [] rfl rfl rfl rfl (Nat.zero_le _) ⟨⟨_, rfl, rfl⟩, ⟨_, rfl, rfl⟩, trivial⟩ trivial ⟨⟨BtIn.up _ _ _, fun w h => bt_of (l := m % 256 :: acc) (by have h1 := h.1; rw [rem_nat] at h1; exact h1) (by rw [List.length_cons, Nat.add_comm]; exact g1) (by rw [List.length_cons, Nat.add_comm]; exact g2) g3⟩, trivial⟩) ?_
  refine svc_ok tabOk [] _ _ _ ?_
  refine ⟨{}, ⟨by decide, rfl⟩, ?_⟩
  refine ⟨⟨c', m / 256, m % 256 :: acc, B, d⟩, ⟨hx, hm2, by simp only; omega, by simp only [List.length_cons]; rw [Nat.add_comm]; exact g1⟩, Nat.div_lt_self hgt (by decide), ?_⟩
  exact ent_ren [] rfl rfl rfl rfl (Nat.zero_le _) ⟨⟨_, rfl, oneI (quo_nat hmle)⟩, ⟨_, rfl, (by simp only [List.length_cons]; rw [Nat.add_comm])⟩, trivial⟩ trivial ⟨⟨BtIn.up _ _ _, fun w h => h.1⟩, trivial⟩
def byteCells (l : List UInt8) : List Value := l.map fun b => Value.int .u8 (b.toNat : Int)
theorem byteCells_len (l : List UInt8) : (byteCells l).length = l.length := by simp [byteCells]
theorem byteCells_app (l r : List UInt8) : byteCells (l ++ r) = byteCells l ++ byteCells r := by simp [byteCells]
theorem byteCells_one (l : List UInt8) : ∀ u ∈ byteCells l, u.oneCell' = true := by
  intro u hu
  obtain ⟨b, _, rfl⟩ := List.mem_map.1 hu
  rfl
theorem bytesAt_iff {w : World} {A : Option Addr} {l : List UInt8} : BytesAt w A l ↔ SlAt w A (byteCells l) := by
  constructor
  · intro h j u hj
    simp only [byteCells, List.getElem?_map] at hj
    cases hq : l[j]? with
    | none => rw [hq] at hj; cases hj
    | some b =>
      rw [hq] at hj
      cases hj
      exact h j b hq
  · intro h j b hj
    exact h j _ (by simp [byteCells, hj])
theorem byteP_ok (p : Int) : IntKind.u8.wrap (IntKind.i64.wrap (p + 1)) = (byteP p : Int) := byteI_ok _
theorem numR_pc (n : Nat) (hn : n ≤ 1099511627776) : PCall Tryz.prog 45 [.int .i64 (n : Int)] (fun _ => True) (cloneR2 (numB n)) (cloneP (numB n)) :=
  PCall.of_row (enters Tryz.func45 (by kernel_rfl) (by kernel_rfl)) (numR_lc n hn) (fun _ => rfl) (fun x hx => by rw [List.mem_singleton.1 hx]; trivial)
theorem textR_lc (s : ByteArray) (hs : s.size ≤ 1000) : LCall Tryz.prog 53 [.one (.v (.string s))] [] 0 (fun _ => True) (fun _ : Unit => True) (fun _ => rowRes (textN s)) := by
  have hl := numB_len s.size
  have hsz := size_list s
  have hbc : bc (textN s) = bc (numB s.size) ++ byteCells s.data.toList := by
    rw [textN, bc_app]
    congr 1
    simp [bc, byteCells]
  have hlen : (textN s).length = (numB s.size).length + s.size := by
    rw [textN, List.length_append, List.length_map, hsz]
  refine lcall_of tabOk 9 [.tmp 2] Tryz.func53 rfl rfl (by kernel_rfl) rfl _ (Nat.le_of_ble_eq_true rfl) Up.true ?_
  refine svc_ok tabOk [] _ _ _ ?_
  refine callVC_lend [] (numR_lc s.size (by omega)) rfl trivial rfl rfl (fun _ _ => trivial) (fun _ _ => ⟨rfl, rfl⟩) (fun _ _ => ?_)
  rintro u ⟨a, c, rfl⟩
  refine ⟨{ cs := byteCells s.data.toList }, ⟨⟨by rw [byteCells_len, Nat.mul_one]; exact hsz.symm, byteCells_one _, fun h => (by cases h), fun w h => ?_⟩, Nat.one_pos, .inr rfl, ?_, ?_⟩, ?_⟩
  · obtain ⟨a', c', e, hb⟩ := h.1
    cases e
    exact bytesAt_iff.1 hb
  · show (numB s.size).length + s.size ≤ maxLen
    simp only [maxLen]; omega
  · show ((numB s.size).length + s.size) * 1 ≤ _
    omega
  refine ⟨_, rfl, (), trivial, rfl, ?_⟩
  exact ent_ren [(0, .own 1)] rfl rfl rfl rfl (Nat.zero_le _) ⟨⟨_, rfl, rfl⟩, trivial⟩ ⟨⟨_, _, rfl, hlen.symm, hbc.symm⟩, trivial⟩ ⟨⟨Up.true, fun _ _ => trivial⟩, trivial⟩
theorem textR_pc (s : ByteArray) (hs : s.size ≤ 1000) : PCall Tryz.prog 53 [.string s] (fun _ => True) (cloneR2 (textN s)) (cloneP (textN s)) :=
  PCall.of_row (enters Tryz.func53 (by kernel_rfl) (by kernel_rfl)) (textR_lc s hs) (fun _ => rfl) (fun x hx => by rw [List.mem_singleton.1 hx]; trivial)
set_option maxHeartbeats 2000000 in
theorem levelR_lc (l : Lv) : LCall Tryz.prog 94 [.one (.v l.val)] [] 0 (fun _ => True) (fun _ : Unit => True) (fun _ => rowRes (lvN l)) := by
  obtain ⟨b, p0, p1, p2, p3⟩ := l
  refine lcall_of tabOk 23 [.tmp 2] Tryz.func94 rfl rfl (by kernel_rfl) rfl _ (Nat.le_of_ble_eq_true rfl) Up.true ?_
  refine svc_ok tabOk [] _ _ _ ?_
  refine ⟨⟨Nat, fun j => j ≤ 4,
    fun j => { s := [(1, .one (.p 0 0)), (3, .one (.row 1)), (4, .one (.v (.int .i64 (j : Int))))], m := [(0, .cells 102 [.v (.int .i64 b), .v (.int .i64 p0), .v (.int .i64 p1), .v (.int .i64 p2), .v (.int .i64 p3)]), (1, .own 5 1 (1 + j) (bc ((lvN ⟨b, p0, p1, p2, p3⟩).take (1 + j))))], k := 2, f := [] },
    fun j => 4 - j, ⟨0, Nat.zero_le _, ?_⟩, ?_⟩⟩
  · exact Ent.trans (ent_own 3 1 1 1 rfl rfl rfl (by decide) rfl) (ent_ren [(0, .blk 0), (1, .own 2)] rfl rfl rfl rfl (Nat.le_of_ble_eq_true rfl) ⟨⟨_, rfl, rfl⟩, ⟨_, rfl, rfl⟩, ⟨_, rfl, rfl⟩, trivial⟩ ⟨⟨_, rfl, rfl⟩, ⟨_, _, rfl, rfl, by rw [byteI_ok]; rfl⟩, trivial⟩ trivial)
  rintro j hj
  refine bsplit_i (fun hlt => ?_) (fun hge => ?_)
  rotate_left
  · have hge : j = 4 := by
      have h : decide ((j : Int) < 4) = false := hge
      have := of_decide_eq_false h
      omega
    subst hge
    refine ⟨_, rfl, (), trivial, rfl, ?_⟩
    exact ent_ren [(0, .own 1)] rfl rfl rfl rfl (Nat.zero_le _) ⟨⟨_, rfl, rfl⟩, trivial⟩ ⟨⟨_, _, rfl, rfl, rfl⟩, trivial⟩ ⟨⟨Up.true, fun _ _ => trivial⟩, trivial⟩
  have hlt : j < 4 := by
    have h : decide ((j : Int) < 4) = true := hlt
    have := of_decide_eq_true h
    omega
  match j, hlt with
  | 0, _ =>
    refine ⟨{ n := 0 }, ⟨rfl, (show 0 < 4 by decide)⟩, ?_⟩
    refine ⟨{}, ⟨trivial, Nat.one_pos, .inr rfl, (show 1 + 0 + 1 ≤ maxLen by decide), (show (1 + 0 + 1) * 1 ≤ 140737488355328 by decide)⟩, ?_⟩
    exact ⟨1, by decide, by decide, ent_ren [(0, .blk 0), (1, .own 3)] rfl rfl rfl rfl (Nat.le_of_ble_eq_true rfl) ⟨⟨_, rfl, rfl⟩, ⟨_, rfl, rfl⟩, ⟨_, rfl, rfl⟩, trivial⟩ ⟨⟨_, rfl, rfl⟩, ⟨_, _, rfl, rfl, by rw [byteP_ok]; rfl⟩, trivial⟩ trivial⟩
  | 1, _ =>
    refine ⟨{ n := 1 }, ⟨rfl, (show 1 < 4 by decide)⟩, ?_⟩
    refine ⟨{}, ⟨trivial, Nat.one_pos, .inr rfl, (show 1 + 1 + 1 ≤ maxLen by decide), (show (1 + 1 + 1) * 1 ≤ 140737488355328 by decide)⟩, ?_⟩
    exact ⟨2, by decide, by decide, ent_ren [(0, .blk 0), (1, .own 3)] rfl rfl rfl rfl (Nat.le_of_ble_eq_true rfl) ⟨⟨_, rfl, rfl⟩, ⟨_, rfl, rfl⟩, ⟨_, rfl, rfl⟩, trivial⟩ ⟨⟨_, rfl, rfl⟩, ⟨_, _, rfl, rfl, by rw [byteP_ok]; rfl⟩, trivial⟩ trivial⟩
  | 2, _ =>
    refine ⟨{ n := 2 }, ⟨rfl, (show 2 < 4 by decide)⟩, ?_⟩
    refine ⟨{}, ⟨trivial, Nat.one_pos, .inr rfl, (show 1 + 2 + 1 ≤ maxLen by decide), (show (1 + 2 + 1) * 1 ≤ 140737488355328 by decide)⟩, ?_⟩
    exact ⟨3, by decide, by decide, ent_ren [(0, .blk 0), (1, .own 3)] rfl rfl rfl rfl (Nat.le_of_ble_eq_true rfl) ⟨⟨_, rfl, rfl⟩, ⟨_, rfl, rfl⟩, ⟨_, rfl, rfl⟩, trivial⟩ ⟨⟨_, rfl, rfl⟩, ⟨_, _, rfl, rfl, by rw [byteP_ok]; rfl⟩, trivial⟩ trivial⟩
  | 3, _ =>
    refine ⟨{ n := 3 }, ⟨rfl, (show 3 < 4 by decide)⟩, ?_⟩
    refine ⟨{}, ⟨trivial, Nat.one_pos, .inr rfl, (show 1 + 3 + 1 ≤ maxLen by decide), (show (1 + 3 + 1) * 1 ≤ 140737488355328 by decide)⟩, ?_⟩
    exact ⟨4, by decide, by decide, ent_ren [(0, .blk 0), (1, .own 3)] rfl rfl rfl rfl (Nat.le_of_ble_eq_true rfl) ⟨⟨_, rfl, rfl⟩, ⟨_, rfl, rfl⟩, ⟨_, rfl, rfl⟩, trivial⟩ ⟨⟨_, rfl, rfl⟩, ⟨_, _, rfl, rfl, by rw [byteP_ok]; rfl⟩, trivial⟩ trivial⟩
theorem levelR_pc (l : Lv) : PCall Tryz.prog 94 [l.val] (fun _ => True) (cloneR2 (lvN l)) (cloneP (lvN l)) :=
  PCall.of_row (enters Tryz.func94 (by kernel_rfl) (by kernel_rfl)) (levelR_lc l) (fun _ => rfl) (fun x hx => by rw [List.mem_singleton.1 hx]; trivial)
end Go.Proofs.YtmkpiekbpakigaaGreatDoor
