/- Symbolic operations: the second part: arithmetic, conversions, calls, built-in functions. -/
import Derived.Test.YtmkpiekbpakigaaDoorSymC
set_option linter.unusedVariables false
set_option linter.unusedSimpArgs false
namespace Go.Proofs.Sym
open Go.RowKit Go.Proofs.Base Go.Proofs.Mono

def binI (op : BinOp) (k : IntKind) (a b : Int) : Option Value := match op with
  | .add => some (.int k (k.wrap (a + b)))
  | .sub => some (.int k (k.wrap (a - b)))
  | .mul => some (.int k (k.wrap (a * b)))
  | .and => some (.int k (k.wrap ((BitVec.ofInt k.bits a &&& BitVec.ofInt k.bits b).toNat)))
  | .or => some (.int k (k.wrap ((BitVec.ofInt k.bits a ||| BitVec.ofInt k.bits b).toNat)))
  | .xor => some (.int k (k.wrap ((BitVec.ofInt k.bits a ^^^ BitVec.ofInt k.bits b).toNat)))
  | .eql => some (.bool (decide (a = b)))
  | .neq => some (.bool (!decide (a = b)))
  | .lss => some (.bool (decide (a < b)))
  | .leq => some (.bool (decide (a ≤ b)))
  | .gtr => some (.bool (decide (b < a)))
  | .geq => some (.bool (decide (b ≤ a)))
  | _ => none
def binS (op : BinOp) (a b : ByteArray) : Option Value := match op with
  | .eql => some (.bool (decide (a = b)))
  | .neq => some (.bool (!decide (a = b)))
  | .lss => some (.bool (Op.bytesLess a.toList b.toList))
  | .leq => some (.bool (Op.bytesLess a.toList b.toList || decide (a = b)))
  | .gtr => some (.bool !(Op.bytesLess a.toList b.toList || decide (a = b)))
  | .geq => some (.bool !(Op.bytesLess a.toList b.toList))
  | _ => none
def binO (op : BinOp) (x : Option Value) (ob : Ch → Prop) (v : Ch → SV) : Sig := match x with
  | some v => .det (.one (.v v))
  | none => .bad
def detV : Option Value → Sig
  | some v => .det (.one (.v v))
  | none => .bad
def isEq : BinOp → Bool → Option Bool
  | .eql, b => some b
  | .neq, b => some (!b)
  | _, _ => none
def detB : Option Bool → Sig
  | some b => .det (.one (.v (.bool b)))
  | none => .bad
def sigBin (T : Tab) (st : St) (op : BinOp) (t : TypeId) (x y : Operand) : Sig := match ev st.s x, ev st.s y with
  | some (.one (.v (.int k a))), some (.one (.v (.int k' b))) => match op with
    | .shl => .pick (fun c => b = (c.n : Int)) (fun c => .one (.v (.int k (k.wrap (a * 2 ^ (min c.n k.bits))))))
    | .shr => .pick (fun c => b = (c.n : Int)) (fun c => .one (.v (.int k (a.fdiv (2 ^ (min c.n k.bits))))))
    | .quo => .pick (fun c => b ≠ 0 ∧ k = k') (fun c => .one (.v (.int k (k.wrap (a.tdiv b)))))
    | .rem => .pick (fun c => b ≠ 0 ∧ k = k') (fun c => .one (.v (.int k (a.tmod b))))
    | op => match decide (k = k') with
      | true => detV (binI op k a b)
      | false => .bad
  | some (.one (.v (.bool a))), some (.one (.v (.bool b))) => match get t T.u with
    | some .bool => detB (isEq op (a == b))
    | _ => .bad
  | some (.one (.v (.string a))), some (.one (.v (.string b))) => match op with
    | .add => .pick (fun c => a.size + b.size ≤ 9223372036854775807) (fun c => .one (.v (.string (a ++ b))))
    | op => detV (binS op a b)
  | some (.one (.v (.slice A n c))), some (.one (.v (.slice none 0 0))) => match get t T.u with
    | some (.slice _) => detB (isEq op A.isNone)
    | _ => .bad
  | some u, some v => match get t T.eqs, aggOf u, aggOf v with
    | some n, some xs, some ys => match plainOf xs, plainOf ys with
      | some xs, some ys => match Nat.beq xs.length n, eqInts xs ys with
        | true, some r => detB (isEq op r)
        | _, _ => .bad
      | _, _ => .bad
    | _, _, _ => .bad
  | _, _ => .bad
def sigUn (st : St) (op : UnOp) (x : Operand) : Sig := match op, ev st.s x with
  | .not, some (.one (.v (.bool b))) => .det (.one (.v (.bool !b)))
  | .neg, some (.one (.v (.int k n))) => .det (.one (.v (.int k (k.wrap (0 - n)))))
  | _, _ => .bad
/-- A slice of these bytes. -/
def BytesAt (w : World) (A : Option Addr) (l : List UInt8) : Prop := ∀ j b, l[j]? = some b → ∃ a, A = some a ∧ w.cell? (a.add j) = some (.int .u8 (b.toNat : Int))
theorem BytesAt.up (A : Option Addr) (l : List UInt8) : Up fun w => BytesAt w A l := by
  intro w w' h hb j b hj
  obtain ⟨a, ha, hc⟩ := hb j b hj
  exact ⟨a, ha, h.cell hc⟩
def sigConv (T : Tab) (st : St) (src dst : TypeId) (x : Operand) : Sig := match get src T.u, get dst T.u, ev st.s x with
  | some _, some (.int k'), some (.one (.v (.int k n))) => .det (.one (.v (.int k' (k'.wrap n))))
  | some .string, some .string, some (.one (.v (.string s))) => .det (.one (.v (.string s)))
  | some (.slice E), some .string, some (.one (.v (.slice A n c))) => match get E T.u with
    | some (.int .u8) => .pick (fun ch => ch.b.size = n ∧ ∀ w, AllF st.f w → BytesAt w A ch.b.data.toList) (fun ch => .one (.v (.string ch.b)))
    | _ => .bad
  | some (.slice E), some .string, some (.one (.row i)) => match get E T.u, get i st.m with
    | some (.int .u8), some (.own _ z n xs) => .pick (fun ch => ch.b.size = n ∧ z = 1 ∧ xs = ch.b.data.toList.map fun b => Value.int .u8 (b.toNat : Int)) (fun ch => .one (.v (.string ch.b)))
    | _, _ => .bad
  | some .string, some (.slice E), some (.one (.v (.string s))) => match get E T.u with
    | some (.int .u8) => .ask (fun u => ∃ a c, u = .slice (some a) s.size c) (fun u w => ∃ a c, u = .slice (some a) s.size c ∧ BytesAt w (some a) s.data.toList)
    | _ => .bad
  | _, _, _ => .bad
def sigExtract (st : St) (x : Operand) (j : Nat) : Sig := match ev st.s x with
  | some (.tup xs) => match xs[j]? with
    | some (.one y) => .det (.one y)
    | some (.agg ys) => .det (.agg ys)
    | none => .bad
  | some (.one (.v (.tuple vs))) => match vs.toList[j]? with
    | some v => .det (.one (.v v))
    | none => .bad
  | _ => .bad
def capOf : SV → Option Cap
  | .one (.p i 0) => some (.p i)
  | .one (.v x) => some (.v x)
  | _ => none
def allSome {α β : Type} (f : α → Option β) : List α → Option (List β)
  | [] => some []
  | x :: r => match f x, allSome f r with
    | some y, some ys => some (y :: ys)
    | _, _ => none
def evs (s : List (Nat × SV)) (l : List Operand) : Option (List SV) := allSome (ev s) l
def caps (s : List (Nat × SV)) (l : List Operand) : Option (List Cap) := match evs s l with
  | some vs => allSome capOf vs
  | none => none
def Cap.sv : Cap → SV
  | .p i => .one (.p i 0)
  | .v x => .one (.v x)
def sigFunc (st : St) (f : Fn) (fs cs : List Operand) : Sig := match f with
  | .func g => match caps st.s fs, caps st.s cs with
    | some a, some b => .det (.one (.fn g a b))
    | _, _ => .bad
  | _ => .bad
def sigIface (T : Tab) (st : St) (t : TypeId) (x : Operand) : Sig := match get t T.fld, get t T.u, ev st.s x with
  | some _, _, some v => match aggOf v with
    | some xs => match plainOf xs with
      | some vs => .det (.one (.v (.iface t (.agg vs.toArray))))
      | none => .bad
    | none => .bad
  | none, some d, some (.one (.v v)) => match isIfcD d with
    | false => .det (.one (.v (.iface t v)))
    | true => .bad
  | _, _, _ => .bad
def sigLen (T : Tab) (st : St) (t : TypeId) (x : Operand) : Sig := match get t T.u, ev st.s x with
  | some .string, some (.one (.v (.string s))) => .det (.one (.v (.int .i64 (s.size : Int))))
  | some (.slice _), some (.one (.v (.slice _ n _))) => .det (.one (.v (.int .i64 (n : Int))))
  | some (.slice _), some (.one (.sl _ _ n _)) => .det (.one (.v (.int .i64 (n : Int))))
  | some (.slice _), some (.one (.row i)) => match get i st.m with
    | some (.own _ _ n _) => .det (.one (.v (.int .i64 (n : Int))))
    | _ => .bad
  | _, _ => .bad
def sigMin (st : St) (x y : Operand) : Sig := match ev st.s x, ev st.s y with
  | some (.one (.v (.int k a))), some (.one (.v (.int _ b))) => .det (.one (.v (.int k (if b < a then b else a))))
  | _, _ => .bad
def sigMax (st : St) (x y : Operand) : Sig := match ev st.s x, ev st.s y with
  | some (.one (.v (.int k a))), some (.one (.v (.int _ b))) => .det (.one (.v (.int k (if b > a then b else a))))
  | _, _ => .bad
/-- What is appended to: a row, or nothing. -/
def baseOf (st : St) (z0 : Nat) : SV → Option (Option Nat × Nat × List Value × Option (Nat × Nat))
  | .one (.v (.slice none 0 0)) => some (none, 0, [], none)
  | .one (.row i) => match get i st.m with
    | some (.own E z n xs) => some (some i, n, xs, some (E, z))
    | _ => none
  | .one (.sl i 0 n c) => match get i st.m with
    | some (.cells E cs) => match plainOf cs, Nat.beq n c, Nat.beq cs.length (n * z0), Nat.ble n 1000000 with
      | some vs, true, true, true => some (some i, n, vs, some (E, z0))
      | _, _, _, _ => none
    | _ => none
  | _ => none
/-- What is appended, and that it is there. -/
def srcOf (st : St) (z : Nat) : SV → Option ((Ch → Prop) × (Ch → Nat) × (Ch → List Value))
  | .one (.sl j o m c) => match get j st.m with
    | some (.cells _ cs) => match plainOf ((cs.drop o).take (m * z)), Nat.ble (o + m * z) cs.length with
      | some vs, true => some (fun _ => True, fun _ => m, fun _ => vs)
      | _, _ => none
    | _ => none
  | .one (.v (.slice A m c)) => some (fun ch => ch.cs.length = m * z ∧ (∀ u ∈ ch.cs, u.oneCell' = true) ∧ (A = none → m = 0 ∧ c = 0) ∧ ∀ w, AllF st.f w → ∀ j u, ch.cs[j]? = some u → ∃ a, A = some a ∧ w.cell? (a.add j) = some u, fun _ => m, fun ch => ch.cs)
  | _ => none
def sigAppend (T : Tab) (st : St) (t : TypeId) (x y : Operand) : Sig := match get t T.u with
  | some (.slice E) => match get E T.ty, ev st.s x, ev st.s y with
    | some ti, some u, some v => match baseOf st ti.size u, srcOf st ti.size v with
      | some (old, n, xs, ez), some (ob, m, news) => .grow (fun c => ob c ∧ 0 < ti.size ∧ (ez = none ∨ ez = some (E, ti.size)) ∧ n + m c ≤ maxLen ∧ (n + m c) * ti.bytes ≤ 140737488355328) old E ti.size (fun c => n + m c) (fun c => xs ++ news c)
      | _, _ => .bad
    | _, _, _ => .bad
  | _ => .bad
def sigCall (st : St) (f : Operand) (args : List Operand) : Sig := match ev st.s f, evs st.s args with
  | some (.one (.fn g fs cs)), some vs => .call g (fs.map Cap.sv ++ vs ++ cs.map Cap.sv)
  | _, _ => .bad

/-! ### They hold -/
theorem str_eq (a b : ByteArray) : (a.toList == b.toList) = decide (a = b) := by
  rw [Bool.eq_iff_iff]
  simp only [beq_iff_eq, decide_eq_true_eq]
  constructor
  · intro h
    rw [ByteArray.toList_eq, ByteArray.toList_eq] at h
    cases a; cases b
    simp only at h
    congr 1
    exact Array.toList_inj.1 h
  · rintro rfl; rfl
section
variable {P : Program} {T : Tab} {cx : Cx} {e : Env} {st : St} {o : Oper} {a : Act} {w : World}
theorem bin_run {op : BinOp} {t yt : TypeId} {x y : Operand} {u v r : Value} (ho : o.op = .binOp op t x y yt) (hx : a.eval x = u) (hy : a.eval y = v)
    (h : (do eqGuard op t x y u v; binOp op t u v : Sem Value).run P w = .ok r w) : (execOp a.eval o).run P w = .ok (.value r) w := by
  simp only [execOp, ho, hx, hy]
  rw [Sem.run_bind, h]
  rfl
theorem guard_no {op : BinOp} {t : TypeId} {x y : Operand} {u v : Value} (h1 : ∀ x, u ≠ .agg x) (h2 : u ≠ .nilIface) : (eqGuard op t x y u v).run P w = .ok () w := by
  unfold eqGuard
  cases op <;> simp <;> cases u <;> simp_all
theorem sigBin_ok (hT : T.Ok P) (hS : Sat cx e st a w) {op : BinOp} {t yt : TypeId} {x y : Operand} (ho : o.op = .binOp op t x y yt) : SigOk P e st o a w (sigBin T st op t x y) := by
  unfold sigBin
  split
  · rename_i k i k' j hx hy
    have hx2 : a.eval x = .int k i := (hS.ev hx).2
    have hy2 : a.eval y = .int k' j := (hS.ev hy).2
    have hg : ∀ (op : BinOp), (eqGuard op t x y (.int k i) (.int k' j)).run P w = .ok () w := fun op => guard_no (by simp) (by simp)
    split
    · rintro c rfl
      refine ⟨trivial, bin_run ho hx2 hy2 ?_⟩
      rw [Sem.run_bind, hg]
      simp only [Result.andThen_ok, binOp, Op.shift]
      rw [if_neg (by omega)]
      simp [SV.real, SA.real]
    · rintro c rfl
      refine ⟨trivial, bin_run ho hx2 hy2 ?_⟩
      rw [Sem.run_bind, hg]
      simp only [Result.andThen_ok, binOp, Op.shift]
      rw [if_neg (by omega)]
      simp [SV.real, SA.real]
    · rintro c ⟨hj, rfl⟩
      refine ⟨trivial, bin_run ho hx2 hy2 ?_⟩
      rw [Sem.run_bind, hg]
      simp [binOp, Op.intDiv, hj, SV.real, SA.real]
    · rintro c ⟨hj, rfl⟩
      refine ⟨trivial, bin_run ho hx2 hy2 ?_⟩
      rw [Sem.run_bind, hg]
      simp [binOp, Op.intDiv, hj, SV.real, SA.real]
    · rename_i h1 h2 h3 h4
      split
      · rename_i hk
        obtain rfl : k = k' := of_decide_eq_true hk
        unfold detV
        split
        · rename_i v hv
          refine ⟨trivial, bin_run ho hx2 hy2 ?_⟩
          rw [Sem.run_bind, hg]
          cases op <;> simp [binI] at hv h1 h2 h3 h4 <;> subst hv <;> simp [binOp, Op.intArith, Op.intBits, Op.intCmp, SV.real, SA.real, bne] <;> rfl
        · trivial
      · trivial
  · rename_i p q hx hy
    have hx2 : a.eval x = .bool p := (hS.ev hx).2
    have hy2 : a.eval y = .bool q := (hS.ev hy).2
    split
    · rename_i hu
      have hu := hT.u _ (get_mem hu)
      simp only at hu
      have hg : (eqGuard op t x y (.bool p) (.bool q)).run P w = .ok () w := guard_no (by simp) (by simp)
      unfold detB isEq
      cases op <;> simp only <;> first | trivial | skip
      · refine ⟨trivial, bin_run ho hx2 hy2 ?_⟩
        rw [Sem.run_bind, hg, Result.andThen_ok, run_eql_bool w t p q hu]
        rfl
      · refine ⟨trivial, bin_run ho hx2 hy2 ?_⟩
        rw [Sem.run_bind, hg, Result.andThen_ok, run_neq_bool w t p q hu]
        rfl
    · trivial
  · rename_i p q hx hy
    have hx2 : a.eval x = .string p := (hS.ev hx).2
    have hy2 : a.eval y = .string q := (hS.ev hy).2
    have hg : ∀ (op : BinOp), (eqGuard op t x y (.string p) (.string q)).run P w = .ok () w := fun op => guard_no (by simp) (by simp)
    split
    · intro c hc
      refine ⟨trivial, bin_run ho hx2 hy2 ?_⟩
      rw [Sem.run_bind, hg]
      have hm : ¬ (((p.size + q.size : Nat) : Int) > IntKind.i64.max) := by
        show ¬ (((p.size + q.size : Nat) : Int) > 9223372036854775807)
        omega
      simp only [Result.andThen_ok, binOp, Op.stringOp]
      rw [if_neg hm]
      simp [SV.real, SA.real]
    · rename_i h1
      unfold detV
      split
      · rename_i v hv
        refine ⟨trivial, bin_run ho hx2 hy2 ?_⟩
        rw [Sem.run_bind, hg]
        cases op <;> simp [binS] at hv h1 <;> subst hv <;> simp [binOp, Op.stringOp, SV.real, SA.real, str_eq]
      · trivial
  · rename_i A n c hx hy
    have hx2 : a.eval x = .slice A n c := (hS.ev hx).2
    have hy2 : a.eval y = .slice none 0 0 := (hS.ev hy).2
    split
    · rename_i E hu
      have hu := hT.u _ (get_mem hu)
      simp only at hu
      have hg : (eqGuard op t x y (.slice A n c) (.slice none 0 0)).run P w = .ok () w := guard_no (by simp) (by simp)
      have he : (Op.equal t (.slice A n c) (.slice none 0 0)).run P w = .ok A.isNone w := run_equal_slice_nil w t E A n c hu
      unfold detB isEq
      cases op <;> simp only <;> first | trivial | skip
      · refine ⟨trivial, bin_run ho hx2 hy2 ?_⟩
        rw [Sem.run_bind, hg, Result.andThen_ok]
        simp [binOp, he, SV.real, SA.real]
      · refine ⟨trivial, bin_run ho hx2 hy2 ?_⟩
        rw [Sem.run_bind, hg, Result.andThen_ok]
        simp [binOp, he, SV.real, SA.real]
    · trivial
  · rename_i u v _ _ _ _ hx hy
    split
    · rename_i n xs ys hq hxs hys
      split
      · rename_i xs' ys' hxs' hys'
        split
        · rename_i r hlen hr
          have hlen : xs'.length = n := by rw [← Nat.beq_eq]; exact hlen
          have hx2 : a.eval x = .agg xs'.toArray := by
            rw [(hS.ev hx).2, (aggOf_ok hxs e (hS.ev hx).1).1, plainOf_ok e hxs']
          have hy2 : a.eval y = .agg ys'.toArray := by
            rw [(hS.ev hy).2, (aggOf_ok hys e (hS.ev hy).1).1, plainOf_ok e hys']
          obtain ⟨h1, h2⟩ := hT.eqs _ (get_mem hq) xs' ys' r w x y hlen hr
          unfold detB isEq
          cases op <;> simp only <;> first | trivial | skip
          · exact ⟨trivial, bin_run ho hx2 hy2 h1⟩
          · exact ⟨trivial, bin_run ho hx2 hy2 h2⟩
        · trivial
      · trivial
    · trivial
  · trivial
theorem sigUn_ok (hS : Sat cx e st a w) {op : UnOp} {t : TypeId} {x : Operand} (ho : o.op = .unOp op t x) : SigOk P e st o a w (sigUn st op x) := by
  unfold sigUn
  split
  · rename_i b hx
    have hx2 : a.eval x = .bool b := (hS.ev hx).2
    exact ⟨trivial, by simp [execOp, ho, hx2, Op.unary, SV.real, SA.real]⟩
  · rename_i k n hx
    have hx2 : a.eval x = .int k n := (hS.ev hx).2
    exact ⟨trivial, by simp [execOp, ho, hx2, Op.unary, Op.intArith, SV.real, SA.real]⟩
  · trivial
theorem under_some {t : Nat} {d : TypeDesc} (hT : T.Ok P) (h : get t T.u = some d) (w : World) : (underlying t).run P w = .ok d w := run_underlying (hT.u _ (get_mem h)) w
theorem sigConv_ok (hT : T.Ok P) (hS : Sat cx e st a w) {src dst : TypeId} {x : Operand} (ho : o.op = .convert src dst x) : SigOk P e st o a w (sigConv T st src dst x) := by
  unfold sigConv
  split
  · rename_i d k' k n hs hd hx
    have hx2 : a.eval x = .int k n := (hS.ev hx).2
    refine ⟨trivial, ?_⟩
    simp only [execOp, ho, convert, Sem.run_bind, under_some hT hs, under_some hT hd, Result.andThen_ok, hx2, Conv.intToInt, Sem.run_pure]
    rfl
  · rename_i s hs hd hx
    have hx2 : a.eval x = .string s := (hS.ev hx).2
    refine ⟨trivial, ?_⟩
    simp only [execOp, ho, convert, Sem.run_bind, under_some hT hs, under_some hT hd, Result.andThen_ok, hx2, Sem.run_pure]
    rfl
  · rename_i E A n c hs hd hx
    have hx2 : a.eval x = .slice A n c := (hS.ev hx).2
    split
    · rename_i hE
      rintro ch ⟨rfl, hb⟩
      refine ⟨trivial, ?_⟩
      have hb := hb w hS.mem.fact
      have hsz : ch.b.size = ch.b.data.toList.length := by simp
      have hr : (convert src dst (.slice A ch.b.size c)).run P w = .ok (.string ch.b) w := by
        cases A with
        | none =>
          have h0 : ch.b = ByteArray.empty := by
            cases hl : ch.b.data.toList with
            | nil =>
              cases hbb : ch.b with
              | mk dd =>
                rw [hbb] at hl
                simp only at hl
                rw [show dd = #[] from Array.toList_eq_nil_iff.1 hl]
                rfl
            | cons u r =>
              obtain ⟨ad, h1, _⟩ := hb 0 u (by rw [hl]; rfl)
              cases h1
          rw [run_convert_bytes_string w src dst E none _ c (hT.u _ (get_mem hs)) (hT.u _ (get_mem hE)) (hT.u _ (get_mem hd)), h0]
          simp [Conv.bytesToString]
        | some ad =>
          have := run_convert_bytes_back (P := P) w src dst E ad c ch.b.data.toList (hT.u _ (get_mem hs)) (hT.u _ (get_mem hE)) (hT.u _ (get_mem hd)) (fun j hj => by
            obtain ⟨ad', h1, h2⟩ := hb j _ (List.getElem?_eq_getElem hj)
            cases h1
            exact h2)
          rw [hsz, this]
      simp only [execOp, ho, Sem.run_bind, hx2, hr, Result.andThen_ok, Sem.run_pure]
      rfl
    · trivial
  · rename_i E i hs hd hx
    have hx2 : a.eval x = e.rv i := (hS.ev hx).2
    split
    · rename_i E' z n xs hE hi
      rintro ch ⟨rfl, rfl, rfl⟩
      refine ⟨trivial, ?_⟩
      have hown := hS.mem.own _ _ _ _ _ hi
      have hsz : ch.b.size = ch.b.data.toList.length := by simp
      have hr : (convert src dst (e.rv i)).run P w = .ok (.string ch.b) w := by
        by_cases hn : 0 < ch.b.size
        · obtain ⟨g, hg, hg2, hc⟩ := q_row hS.mem hi hn
          rw [Env.rv, hg, hg2]
          have := run_convert_bytes_back (P := P) w src dst E ⟨g, 0, none⟩ (e.row i).2.2 ch.b.data.toList (hT.u _ (get_mem hs)) (hT.u _ (get_mem hE)) (hT.u _ (get_mem hd)) (fun j hj => by
            rw [add_off]
            simp only [Nat.zero_add]
            exact hc j _ (by rw [List.getElem?_map, List.getElem?_eq_getElem hj]; rfl))
          rw [hsz, this]
        · have h0 : ch.b = ByteArray.empty := by
            have : ch.b.data.toList.length = 0 := by omega
            have h1 := List.eq_nil_of_length_eq_zero this
            cases hbb : ch.b with
            | mk dd =>
              rw [hbb] at h1
              simp only at h1
              rw [show dd = #[] from Array.toList_eq_nil_iff.1 h1]
              rfl
          rw [h0]
          rw [h0] at hown
          rcases hown.2 with ⟨hv, _⟩ | ⟨g, cap, cur, hv, _⟩
          · rw [hv, run_convert_bytes_string w src dst E none _ 0 (hT.u _ (get_mem hs)) (hT.u _ (get_mem hE)) (hT.u _ (get_mem hd))]
            simp [Conv.bytesToString]
          · rw [hv]
            have := run_convert_bytes_back (P := P) w src dst E ⟨g, 0, none⟩ cap [] (hT.u _ (get_mem hs)) (hT.u _ (get_mem hE)) (hT.u _ (get_mem hd)) (fun j hj => by simp at hj)
            exact this
      simp only [execOp, ho, Sem.run_bind, hx2, hr, Result.andThen_ok, Sem.run_pure]
      rfl
    · trivial
  · rename_i E s hs hd hx
    have hx2 : a.eval x = .string s := (hS.ev hx).2
    split
    · rename_i hE
      intro H hH
      have hr := run_bytes_of_string (P := P) w src dst E s (hT.u _ (get_mem hs)) (hT.u _ (get_mem hd)) (hT.u _ (get_mem hE))
      refine ⟨.slice (some ⟨w.heap.size, 0, none⟩) s.size (grownCap w s.size 0 E), (w.drew.alloc (.cells (bytesRow s (grownCap w s.size 0 E)) E ((bytesRow s (grownCap w s.size 0 E)).size, (bytesRow s (grownCap w s.size 0 E)).size + 1))), by simp only [execOp, ho, Sem.run_bind, hx2, hr, Result.andThen_ok, Sem.run_pure], ?_, ⟨_, _, rfl⟩, fun u => Up.ex fun A => Up.ex fun c => Up.and (Up.pure _) (BytesAt.up _ _), ?_⟩
      · exact (Below.refl _ w).drew.alloc (Nat.le_refl _) _
      · refine ⟨_, _, rfl, fun j b hj => ⟨_, rfl, ?_⟩⟩
        have hcell : (hide H (w.drew.alloc (.cells (bytesRow s (grownCap w s.size 0 E)) E ((bytesRow s (grownCap w s.size 0 E)).size, (bytesRow s (grownCap w s.size 0 E)).size + 1)))).heap[w.heap.size]? = some (.cells (bytesRow s (grownCap w s.size 0 E)) E ((bytesRow s (grownCap w s.size 0 E)).size, (bytesRow s (grownCap w s.size 0 E)).size + 1)) := by
          rw [hide_get]
          have : (w.drew.alloc (.cells (bytesRow s (grownCap w s.size 0 E)) E ((bytesRow s (grownCap w s.size 0 E)).size, (bytesRow s (grownCap w s.size 0 E)).size + 1))).heap[w.heap.size]? = some (.cells (bytesRow s (grownCap w s.size 0 E)) E ((bytesRow s (grownCap w s.size 0 E)).size, (bytesRow s (grownCap w s.size 0 E)).size + 1)) := heap_alloc_new w.drew _
          rw [this]
          have hno : ¬ H w.heap.size := fun h => Nat.lt_irrefl _ (hH _ h)
          simp [hno]
        rw [add_off]
        rw [cell_of_row _ w.heap.size (0 + j) _ _ _ hcell]
        have hjl := (List.getElem?_eq_some_iff.1 hj).1
        simp only [Nat.zero_add, bytesRow]
        have hjl2 : j < s.data.size := by simpa using hjl
        rw [Array.getElem?_append_left (by simpa using hjl2)]
        simp only [Array.getElem?_map, Option.map_eq_some_iff]
        exact ⟨b, by rw [← Array.getElem?_toList]; exact hj, rfl⟩
    · trivial
  · trivial
theorem sigExtract_ok (hS : Sat cx e st a w) {x : Operand} {j : Nat} (ho : o.op = .extract x j) : SigOk P e st o a w (sigExtract st x j) := by
  unfold sigExtract
  split
  · rename_i xs hx
    obtain ⟨h1, h2⟩ := hS.ev hx
    have h3 : a.eval x = .tuple (xs.map (TV.real e)).toArray := h2
    split
    · rename_i y hj
      have hl := h1 _ (List.mem_of_getElem? hj)
      refine ⟨hl, ?_⟩
      simp [execOp, ho, h3, Instr.extract, hj, TV.real, SV.real]
    · rename_i ys hj
      have hl := h1 _ (List.mem_of_getElem? hj)
      refine ⟨hl, ?_⟩
      simp [execOp, ho, h3, Instr.extract, hj, TV.real, SV.real]
    · trivial
  · rename_i vs hx
    have h3 : a.eval x = .tuple vs := (hS.ev hx).2
    split
    · rename_i v hj
      refine ⟨trivial, ?_⟩
      rw [Array.getElem?_toList] at hj
      simp [execOp, ho, h3, Instr.extract, hj, SV.real, SA.real]
    · trivial
  · trivial
theorem allSome_ok {α β γ : Type} {f : α → Option β} (g : α → γ) (h : β → γ) (hf : ∀ x y, f x = some y → g x = h y) : ∀ {l : List α} {ys : List β}, allSome f l = some ys → l.map g = ys.map h
  | [], ys, hl => by cases hl; rfl
  | x :: r, ys, hl => by
    simp only [allSome] at hl
    split at hl
    · rename_i y ys' h1 h2
      cases hl
      simp [hf x y h1, allSome_ok g h hf h2]
    · cases hl
theorem allSome_mem {α β : Type} {f : α → Option β} {q : β → Prop} (hf : ∀ x y, f x = some y → q y) : ∀ {l : List α} {ys : List β}, allSome f l = some ys → ∀ y ∈ ys, q y
  | [], ys, hl => by cases hl; simp
  | x :: r, ys, hl => by
    simp only [allSome] at hl
    split at hl
    · rename_i y ys' h1 h2
      cases hl
      intro z hz
      rcases List.mem_cons.1 hz with rfl | hz
      · exact hf x _ h1
      · exact allSome_mem hf h2 z hz
    · cases hl
theorem evs_ok (hS : Sat cx e st a w) {l : List Operand} {vs : List SV} (h : evs st.s l = some vs) : l.map a.eval = vs.map (SV.real e) ∧ ∀ v ∈ vs, v.lt st.k :=
  ⟨allSome_ok _ _ (fun x y hy => (hS.ev hy).2) h, allSome_mem (fun x y hy => (hS.ev hy).1) h⟩
theorem capOf_ok {v : SV} {c : Cap} (h : capOf v = some c) (e : Env) {k : Nat} (hl : v.lt k) : v.real e = c.real e ∧ c.lt k := by
  unfold capOf at h
  split at h
  · cases h; exact ⟨rfl, hl⟩
  · cases h; exact ⟨rfl, trivial⟩
  · cases h
theorem caps_ok (hS : Sat cx e st a w) {l : List Operand} {cs : List Cap} (h : caps st.s l = some cs) : l.map a.eval = cs.map (Cap.real e) ∧ ∀ c ∈ cs, c.lt st.k := by
  unfold caps at h
  split at h
  · rename_i vs hvs
    obtain ⟨h1, h2⟩ := evs_ok hS hvs
    have key : ∀ {vs : List SV} {cs : List Cap}, (∀ v ∈ vs, v.lt st.k) → allSome capOf vs = some cs → vs.map (SV.real e) = cs.map (Cap.real e) ∧ ∀ c ∈ cs, c.lt st.k := by
      intro vs
      induction vs with
      | nil => intro cs _ h; cases h; simp
      | cons v r ih =>
        intro cs hv h
        simp only [allSome] at h
        split at h
        · rename_i y ys h3 h4
          cases h
          obtain ⟨h5, h6⟩ := capOf_ok h3 e (hv v List.mem_cons_self)
          obtain ⟨h7, h8⟩ := ih (fun v hm => hv v (List.mem_cons_of_mem _ hm)) h4
          refine ⟨by simp [h5, h7], fun c hc => ?_⟩
          rcases List.mem_cons.1 hc with rfl | hc
          · exact h6
          · exact h8 c hc
        · cases h
    obtain ⟨h3, h4⟩ := key h2 h
    exact ⟨h1.trans h3, h4⟩
  · cases h
theorem sigFunc_ok (hS : Sat cx e st a w) {f : Fn} {fs cs : Array Operand} (ho : o.op = .makeFunc f fs cs) : SigOk P e st o a w (sigFunc st f fs.toList cs.toList) := by
  unfold sigFunc
  split
  · rename_i g
    split
    · rename_i fa ca h1 h2
      obtain ⟨h3, h4⟩ := caps_ok hS h1
      obtain ⟨h5, h6⟩ := caps_ok hS h2
      refine ⟨⟨h4, h6⟩, ?_⟩
      have e1 : fs.map a.eval = (fa.map (Cap.real e)).toArray := Array.ext' (by rw [Array.toList_map, h3])
      have e2 : cs.map a.eval = (ca.map (Cap.real e)).toArray := Array.ext' (by rw [Array.toList_map, h5])
      simp [execOp, ho, Instr.makeFunc, e1, e2, SV.real, SA.real]
    · trivial
  · trivial
theorem sigIface_ok (hT : T.Ok P) (hS : Sat cx e st a w) {t : TypeId} {x : Operand} (ho : o.op = .makeInterface t x) : SigOk P e st o a w (sigIface T st t x) := by
  unfold sigIface
  split
  · rename_i fs _ v hf hx
    split
    · rename_i xs hxs
      split
      · rename_i vs hvs
        obtain ⟨h1, h2⟩ := hS.ev hx
        have hx2 : a.eval x = .agg vs.toArray := by rw [h2, (aggOf_ok hxs e h1).1, plainOf_ok e hvs]
        obtain ⟨gs, hg, _⟩ := hT.fld _ (get_mem hf)
        refine ⟨trivial, ?_⟩
        simp only [execOp, ho, Instr.makeInterface, Sem.run_bind, run_underlying hg, Result.andThen_ok, hx2, Sem.run_pure]
        rfl
      · trivial
    · trivial
  · rename_i d v hf hd hx
    split
    · rename_i hn
      have hx2 : a.eval x = v := (hS.ev hx).2
      refine ⟨trivial, ?_⟩
      simp only [execOp, ho, Instr.makeInterface, Sem.run_bind, under_some hT hd, Result.andThen_ok, hx2]
      cases d <;> first | (simp [isIfcD] at hn; done) | rfl
    · trivial
  · trivial
theorem sigLen_ok (hT : T.Ok P) (hS : Sat cx e st a w) {t : TypeId} {x : Operand} (ho : o.op = .call { callee := .builtin .len, args := #[x], argTypes := #[t] }) : SigOk P e st o a w (sigLen T st t x) := by
  have key : ∀ {v r : Value}, a.eval x = v → (Builtin.len_ #[t] o.type #[v]).run P w = .ok r w → (execOp a.eval o).run P w = .ok (.value r) w := by
    intro v r hv hr
    simp only [execOp, ho, resolve, invoke, builtin, Sem.run_bind, Sem.run_pure, Result.andThen_ok, List.map_toArray, List.map_cons, List.map_nil, hv, hr]
  have hsl : ∀ {E : TypeId} {A : Option Addr} {n c : Nat}, get t T.u = some (.slice E) → (Builtin.len_ #[t] o.type #[.slice A n c]).run P w = .ok (.int .i64 n) w := by
    intro E A n c hu
    simp [Builtin.len_, under_some hT hu, goInt]
  unfold sigLen
  split
  · rename_i s hu hx
    refine ⟨trivial, key (hS.ev hx).2 ?_⟩
    simp [Builtin.len_, under_some hT hu, SV.real, SA.real, goInt]
  · rename_i E A n c hu hx
    exact ⟨trivial, key (hS.ev hx).2 (hsl hu)⟩
  · rename_i E i off n c hu hx
    exact ⟨trivial, key (hS.ev hx).2 (hsl hu)⟩
  · rename_i E i hu hx
    split
    · rename_i E' z n xs hi
      refine ⟨trivial, key (hS.ev hx).2 ?_⟩
      have hr : (e.row i).2.1 = n := by
        have h1 := hS.mem.own _ _ _ _ _ hi
        rcases h1.2 with ⟨hv, h0⟩ | ⟨g, cap, cur, hv, _⟩
        · simp only [Env.rv, Value.slice.injEq] at hv
          rw [hv.2.1, h0]
        · simp only [Env.rv, Value.slice.injEq] at hv
          exact hv.2.1
      show (Builtin.len_ #[t] o.type #[e.rv i]).run P w = _
      rw [Env.rv, hr]
      exact hsl hu
    · trivial
  · trivial
theorem sigMin_ok (hS : Sat cx e st a w) {x y : Operand} {ts : Array TypeId} (ho : o.op = .call { callee := .builtin .min, args := #[x, y], argTypes := ts }) : SigOk P e st o a w (sigMin st x y) := by
  unfold sigMin
  split
  · rename_i k i k' j hx hy
    have hx2 : a.eval x = .int k i := (hS.ev hx).2
    have hy2 : a.eval y = .int k' j := (hS.ev hy).2
    refine ⟨trivial, ?_⟩
    simp only [execOp, ho, resolve, invoke, builtin, Sem.run_bind, Sem.run_pure, Result.andThen_ok, List.map_toArray, List.map_cons, List.map_nil, hx2, hy2, run_min_int2]
    rfl
  · trivial
theorem sigMax_ok (hS : Sat cx e st a w) {x y : Operand} {ts : Array TypeId} (ho : o.op = .call { callee := .builtin .max, args := #[x, y], argTypes := ts }) : SigOk P e st o a w (sigMax st x y) := by
  unfold sigMax
  split
  · rename_i k i k' j hx hy
    have hx2 : a.eval x = .int k i := (hS.ev hx).2
    have hy2 : a.eval y = .int k' j := (hS.ev hy).2
    refine ⟨trivial, ?_⟩
    simp only [execOp, ho, resolve, invoke, builtin, Sem.run_bind, Sem.run_pure, Result.andThen_ok, List.map_toArray, List.map_cons, List.map_nil, hx2, hy2, run_max_int2]
    rfl
  · trivial
theorem cap_sv_real (e : Env) : ∀ c : Cap, c.sv.real e = c.real e
  | .p _ => rfl
  | .v _ => rfl
theorem cap_sv_lt {k : Nat} : ∀ {c : Cap}, c.lt k → c.sv.lt k
  | .p _, h => h
  | .v _, _ => trivial
theorem sigCall_ok (hS : Sat cx e st a w) {f : Operand} {args : Array Operand} {ts : Array TypeId} (ho : o.op = .call { callee := .value f, args := args, argTypes := ts }) : SigOk P e st o a w (sigCall st f args.toList) := by
  unfold sigCall
  split
  · rename_i g fs cs vs hf hv
    obtain ⟨h1, h2⟩ := hS.ev hf
    obtain ⟨h3, h4⟩ := evs_ok hS hv
    have hf2 : a.eval f = .func (.func g) (fs.map (Cap.real e)).toArray (cs.map (Cap.real e)).toArray := h2
    refine ⟨fun y hy => ?_, ?_⟩
    · rcases List.mem_append.1 hy with hy | hy
      · rcases List.mem_append.1 hy with hy | hy
        · obtain ⟨c, hc, rfl⟩ := List.mem_map.1 hy
          exact cap_sv_lt (h1.1 c hc)
        · exact h4 y hy
      · obtain ⟨c, hc, rfl⟩ := List.mem_map.1 hy
        exact cap_sv_lt (h1.2 c hc)
    · rintro ⟨fn, hfn, hname, hbody⟩
      have e1 : args.map a.eval = (vs.map (SV.real e)).toArray := Array.ext' (by rw [Array.toList_map, h3])
      have e2 : ∀ l : List Cap, (l.map Cap.sv).map (SV.real e) = l.map (Cap.real e) := fun l => by rw [List.map_map]; exact List.map_congr_left fun c _ => cap_sv_real e c
      simp only [execOp, ho, resolve, Sem.run_bind, Deferred.ofValue, hf2, Sem.run_pure, Result.andThen_ok, invoke, callFunc, run_program, hfn, hname, hbody, Bool.false_eq_true, if_false, e1]
      simp only [List.map_append, e2]
      simp
  · trivial
theorem sigAppend_ok (hT : T.Ok P) (hS : Sat cx e st a w) {t : TypeId} {x y : Operand} (ho : o.op = .call { callee := .builtin .append, args := #[x, y], argTypes := #[t, t] }) : SigOk P e st o a w (sigAppend T st t x y) := by
  unfold sigAppend
  split
  · rename_i E hu
    have hu := hT.u _ (get_mem hu)
    simp only at hu
    split
    · rename_i ti u v hE hx hy
      split
      · rename_i old n xs ez ob m news hbase hsrc
        have hx2 := (hS.ev hx).2
        have hy2 := (hS.ev hy).2
        obtain ⟨fi, hi1, hi2, hi3, hi4⟩ := hT.info hE
        have hz := hT.cells hE
        have hzs : ti.val.cells.size = ti.size := by rw [hz]; simp [size_of_val hT hE]
        -- the base
        have hb : (∀ i, old = some i → i < st.k) ∧ ((ez = none ∨ ez = some (E, ti.size)) → w.ownsRow 0 E ti.size (u.real e) n xs ∧ (u.real e).ownBlock = oldBlk e st.m old) := by
          unfold baseOf at hbase
          split at hbase
          · cases hbase
            exact ⟨fun i hi => (by cases hi), fun _ => ⟨World.ownsRow_nil w 0 E ti.size, rfl⟩⟩
          · rename_i i
            split at hbase
            · rename_i E' z' n' xs' hi
              cases hbase
              refine ⟨fun j hj => by cases hj; exact (hS.mem.sc _ _ hi).1, fun hez => ?_⟩
              rcases hez with hez | hez
              · cases hez
              · cases hez
                exact ⟨hS.mem.own _ _ _ _ _ hi, by simp only [oldBlk, hi, Option.bind_some]; rfl⟩
            · cases hbase
          · rename_i i n' c'
            split at hbase
            · rename_i E' cs hi
              split at hbase
              · rename_i vs hvs hb1 hb2 hb3
                cases hbase
                have hnc : n = c' := by rw [← Nat.beq_eq]; exact hb1
                subst hnc
                have hcl : cs.length = n * ti.size := by rw [← Nat.beq_eq]; exact hb2
                have hle : n ≤ 1000000 := Nat.le_of_ble_eq_true hb3
                refine ⟨fun j hj => by cases hj; exact (hS.mem.sc _ _ hi).1, fun hez => ?_⟩
                rcases hez with hez | hez
                · cases hez
                · cases hez
                  have hbk := hS.mem.cells _ _ _ hi
                  have hpl := plainOf_ok e hvs
                  rw [hpl] at hbk
                  have hvl : xs.length = n * ti.size := by rw [← hpl, reals_len]; exact hcl
                  refine ⟨⟨hvl, .inr ⟨e.blk i, n, xs.toArray, rfl, Nat.zero_le _, hbk, Nat.le_refl _, by simp only [maxLen]; omega, by simpa using hvl, ?_⟩⟩, by simp only [oldBlk, hi, Option.bind_some]; rfl⟩
                  rw [← hvl]
                  simp
              · cases hbase
            · cases hbase
          · cases hbase
        refine ⟨hb.1, ?_⟩
        rintro c ⟨hob, hpos, hez, hmax, hbytes⟩
        obtain ⟨hown, hblk⟩ := hb.2 hez
        -- the source
        have hs : (∃ ad mm cc, v.real e = .slice (some ad) mm cc ∧ mm = m c ∧ (news c).length = m c * ti.size ∧ (∀ j u, (news c)[j]? = some u → w.cell? (ad.add j) = some u) ∧ ∀ u ∈ news c, u.oneCell' = true) ∨ (v.real e = .slice none 0 0 ∧ m c = 0 ∧ news c = []) := by
          unfold srcOf at hsrc
          split at hsrc
          · rename_i j off mm cc
            split at hsrc
            · rename_i t' cs hj
              split at hsrc
              · rename_i vs hp hle
                cases hsrc
                have hb2 := hS.mem.cells _ _ _ hj
                have hpl := plainOf_ok e hp
                have hle := Nat.le_of_ble_eq_true hle
                refine .inl ⟨_, _, _, rfl, rfl, ?_, fun l u hl => ?_, fun u hu2 => ?_⟩
                · rw [← hpl, reals_len]; simp; omega
                · rw [add_off, hb2.cell]
                  rw [← hpl, reals_get] at hl
                  simp only [List.getElem?_take, List.getElem?_drop] at hl
                  split at hl
                  · simpa [reals_get] using hl
                  · simp at hl
                · rw [← hpl] at hu2
                  obtain ⟨q, hq, rfl⟩ := List.mem_map.1 hu2
                  exact one_real e ((hS.mem.sc _ _ hj).2 q (List.mem_of_mem_drop (List.mem_of_mem_take hq)))
              · cases hsrc
            · cases hsrc
          · rename_i A mm cc
            cases hsrc
            obtain ⟨h1, h2, h3, h4⟩ := hob
            cases A with
            | some ad =>
              refine .inl ⟨ad, mm, cc, rfl, rfl, h1, fun j u hj => ?_, h2⟩
              obtain ⟨ad', h5, h6⟩ := h4 w hS.mem.fact j u hj
              cases h5
              exact h6
            | none =>
              obtain ⟨h5, h6⟩ := h3 rfl
              subst h5 h6
              exact .inr ⟨rfl, rfl, List.eq_nil_of_length_eq_zero (by rw [h1, Nat.zero_mul])⟩
          · cases hsrc
        have hend : ∀ {v' : Value} {w' : World}, (Builtin.append_ #[t, t] o.type #[u.real e, v.real e]).run P w = .ok v' w' → w'.ownsRow 0 E ti.size v' (n + m c) (xs ++ news c) → w.grownBy w' (u.real e).ownBlock → (∀ g, v'.ownBlock = some g → w.heap.size ≤ g ∨ (u.real e).ownBlock = some g) →
            ∃ v w', (execOp a.eval o).run P w = .ok (.value (.slice v.1 v.2.1 v.2.2)) w' ∧ GrowOk P e st.m w w' v old E ti.size (n + m c) (xs ++ news c) := by
          intro v' w' hr h1 h2 h3
          have hv' : ∃ q : Option Addr × Nat × Nat, v' = .slice q.1 q.2.1 q.2.2 := by
            rcases h1.2 with ⟨rfl, _⟩ | ⟨g, cap, cur, rfl, _⟩
            · exact ⟨(none, 0, 0), rfl⟩
            · exact ⟨(some ⟨g, 0, none⟩, _, cap), rfl⟩
          obtain ⟨q, rfl⟩ := hv'
          refine ⟨q, w', ?_, ?_, h1, ?_⟩
          · simp only [execOp, ho, resolve, invoke, builtin, Sem.run_bind, Sem.run_pure, Result.andThen_ok, List.map_toArray, List.map_cons, List.map_nil, hx2, hy2, hr]
          · rw [← hblk]; exact h2
          · rw [← hblk]; exact h3
        rcases hs with ⟨ad, mm, cc, hv, rfl, hl, hnews, hone⟩ | ⟨hv, hm0, hn0⟩
        · obtain ⟨v', w', hr, h1, h2, h3⟩ := run_append_own (P := P) w 0 t o.type E fi ti.val ti.size ti.bytes hu hi1 hi4 hi2 hi3 hzs hpos (u.real e) n xs hown ad (m c) cc (news c) hl hnews hone hmax hbytes (Nat.zero_le _)
          rw [← hv] at hr
          refine hend hr h1 h2 fun g hg => ?_
          rw [hv] at hr
          rcases hown.2 with ⟨hu0, hn0⟩ | ⟨g0, cap, cur, hu0, _, hh, hnc, hcm, hcs, htake⟩
          · have hown2 : w.ownsRow w.heap.size E ti.size (u.real e) n xs := by
              have hx0 : xs = [] := List.eq_nil_of_length_eq_zero (by rw [hown.1, hn0, Nat.zero_mul])
              rw [hu0, hx0, hn0]
              exact World.ownsRow_nil w _ E ti.size
            obtain ⟨v2, w2, hr2, h12, _, _⟩ := run_append_own (P := P) w w.heap.size t o.type E fi ti.val ti.size ti.bytes hu hi1 hi4 hi2 hi3 hzs hpos (u.real e) n xs hown2 ad (m c) cc (news c) hl hnews hone hmax hbytes (Nat.le_refl _)
            rw [hr] at hr2
            cases hr2
            exact .inl (h12.lt g hg).1
          · by_cases hroom : n + m c ≤ cap
            · have hfit : n * fi.size + (news c).length ≤ cur.size := by rw [hl, hcs, hi2, ← Nat.add_mul]; exact Nat.mul_le_mul_right _ hroom
              have hr2 := run_append_room (P := P) w t o.type E fi hu hi1 g0 n cap cur hh ad (m c) cc (news c) (by rw [hl, hi2]) hnews hone hroom hfit
              rw [hu0] at hr
              rw [hr] at hr2
              cases hr2
              rw [hu0]
              exact .inr hg
            · have holds : ∀ j u, xs[j]? = some u → w.cell? ((⟨g0, 0, none⟩ : Addr).add j) = some u := by
                rw [hu0] at hown
                exact hown.cells (g := g0) rfl
              have hr2 := run_append_grow (P := P) w t o.type E fi ti.val hu hi1 hi4 ⟨g0, 0, none⟩ n cap xs (by rw [hown.1, hi2]) holds ad (m c) cc (news c) (by rw [hl, hi2]) hnews (by omega) (by simp only [maxLen] at hmax; omega) (growslice_fits (by omega) (by rw [hi3]; exact hbytes))
              rw [hu0] at hr
              rw [hr] at hr2
              cases hr2
              cases hg
              exact .inl (Nat.le_refl _)
        · have hr := run_append_owned_none (P := P) w 0 t o.type E fi ti.size hu hi1 (u.real e) n xs hown
          rw [← hv] at hr
          refine hend hr (by rw [hm0, hn0]; simpa using hown) ⟨rfl, rfl, rfl, Nat.le_refl _, fun _ _ _ => rfl⟩ fun g hg => .inr hg
      · trivial
    · trivial
  · trivial
end
end Go.Proofs.Sym
