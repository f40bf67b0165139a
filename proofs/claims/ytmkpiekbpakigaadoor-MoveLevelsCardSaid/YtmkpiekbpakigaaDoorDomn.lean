/- What the claim needs of Ms1, Own6, Ra, Rb, Rc, Rd0, Re, Rf, Ml1, Ml0, in one text. -/
import Derived.Test.YtmkpiekbpakigaaDoorDomg
import Derived.Test.YtmkpiekbpakigaaDoorDomh
import Derived.Test.YtmkpiekbpakigaaDoorDomj
import Derived.Test.YtmkpiekbpakigaaDoorDomm
section
set_option linter.unusedVariables false
set_option linter.unusedSimpArgs false
namespace Go.Proofs.YtmkpiekbpakigaaDoor
open Go.RowKit Go.Proofs.Base Go.Proofs.Sym
def zT : TT := zbb 0 0 ⟨#[]⟩
theorem zabe (w : World) : TTIn w zT := zel w (I64.small _ (by decide) (by decide)) (I64.small _ (by decide) (by decide)) (by decide)
def qOk (o : Option Tm) (q : Bool × TT) : Prop := match o with
 | none => q = (false, zT)
 | some u => q.1 = true /\ q.2.tm = u
def qRes (q : Bool × TT) : LRes := { v := .tup [.agg (q.2.cells.map SA.v), .one (.v (.bool q.1))], m := [], k := 0, F := fun w => TTIn w q.2 }
theorem zqt {o : Option Tm} {x : TT} (h : qOk o (true, x)) : o = some x.tm := by
 cases o with
 | none => cases h
 | some u =>
  obtain ⟨_, h⟩ := h
  rw [<- h]
end Go.Proofs.YtmkpiekbpakigaaDoor
namespace Go.Proofs.Sym
open Go.RowKit Go.Proofs.Base Go.Proofs.YtmkpiekbpakigaaDoor
theorem zay.q {P : Program} {f : FuncId} {args : List SV} {m : List (Nat × LB)} {b : Nat} {pre : World -> Prop} {o : Option Tm} (h : zay P f args m b pre (ze7 (some o)) (zce (some o))) : zay P f args m b pre (qOk o) qRes := by
 cases o with
 | none => exact zay.told h h.up (fun w h => h) (fun _ => (false, zT)) (fun _ _ => rfl) (fun x _ => ⟨fun w => TTIn w zT, TTIn.upS _, fun w _ => zabe w, rfl⟩)
 | some u => exact zay.told h h.up (fun w h => h) (fun x => (true, x)) (fun x hx => ⟨rfl, hx⟩) (fun x _ => ⟨fun w => TTIn w x, TTIn.upS _, fun w h => h, rfl⟩)
end Go.Proofs.Sym
namespace Go.Proofs.YtmkpiekbpakigaaDoor
open Go.RowKit Go.Proofs.Base Go.Proofs.Sym
end Go.Proofs.YtmkpiekbpakigaaDoor
end
section
set_option linter.unusedVariables false
set_option linter.unusedSimpArgs false
namespace Go.Proofs.YtmkpiekbpakigaaDoor
open Go.ChangeShapes Go.WideShapes Go.ChangeAt Go.RowKit Go.Proofs.Base Go.Proofs.Sym
mutual
theorem zuz : ∀ t : TT, TTB t -> tmB t.tm
 | .mk k n s la lc ls aa ac us, h => by
  unfold TTB at h
  rw [zbz]
  unfold tmB
  refine ⟨h.1, ?_, ?_⟩
  ·rw [List.length_map]
   exact h.2.1
  ·exact zpe us h.2.2
theorem zpe : ∀ us : List TT, TTBs us -> tmBs (us.map TT.tm)
 | [], _ => by
  show tmBs []
  unfold tmBs
  trivial
 | u :: r, h => by
  unfold TTBs at h
  show tmBs (u.tm :: r.map TT.tm)
  unfold tmBs
  exact ⟨zuz u h.1, zpe r h.2⟩
end
section
variable {H : Type} {enc : TypeId × Value -> H} {w : World} {base : Nat} {sp : Nat -> Bool} {held : Bool}
set_option maxRecDepth 100000 in
theorem znb {r : Reach} {b0 : Nat} {v : Value} {d : DataW H} {ps : List MemPlace} (hval : Value.okWide Tryd.prog w r b0 41 v) (h : DataW.Trod enc Tryd.prog w base sp held 41 v d ps) (hw : WtOk 41 d) : ∃ t : TT, v = t.val /\ TTIn w t /\ TTB t := by
 obtain ⟨cs, rfl, hsz⟩ := okWide_struct Tryd.underlying41 hval
 obtain ⟨fuel, hf⟩ := h
 obtain ⟨t, hc, ht, hb⟩ := zym _ _ _ hf hw
 obtain ⟨cs⟩ := cs
 simp only [Value.cells] at hc
 exact ⟨t, by rw [show cs = t.cells from hc]; rfl, ht, hb⟩
end
theorem zy5 {f : FuncId} {args : List Value} {pre : World -> Prop} (h : PCall Tryd.prog f args pre (fun r => r = .bool true) (fun _ _ => True)) (hu : Up pre) (w : World) (hp : pre w) : Calls Tryd.prog f args.toArray w fun e w' => e = .returned (.bool true) /\ Below w.heap.size w w' :=
 (h.run w (fun _ => False) (fun _ h => h.elim) (hu _ _ (fun g o hg ho => by rw [zcz, hg]; simp) hp)).mono fun en w' ⟨r, h1, h2, _, h4⟩ => ⟨by rw [h1, h2], h4⟩
end Go.Proofs.YtmkpiekbpakigaaDoor
end
section
set_option linter.unusedVariables false
set_option linter.unusedSimpArgs false
namespace Go.Proofs.Sym
open Go.RowKit Go.Proofs.Base Go.Proofs.Mono
theorem zak.blk {P : Program} {N : Nat} {c : Code} {K : Exit -> St -> Prop} {st : St} (i : Nat) {t : TypeId} {cs : List SA} {vs : List Value} (hi : get i st.m = some (.cells t cs)) (hp : zcq cs = some vs)
  (h : ∀ g, zak P N c K (sbSt (blkA i g) i (fun w => SlAt w (some ⟨g, 0, none⟩) vs) st)) : zak P N c K st := by
 refine ⟨fun cx e a w hn hS => (h (e.blk i)).run cx e a w hn ⟨hS.base, hS.size, hS.defers, fun t u hu => ?_, ?_⟩⟩
 ·obtain ⟨u0, h1, rfl⟩ := zjc hu
  obtain ⟨h2, h3⟩ := hS.slots _ _ h1
  exact ⟨(ze0 rfl).vlt h2, by rw [h3, (ze0 rfl).v]⟩
 ·refine hS.mem.spell hi (ze0 rfl) (SlAt.up _ _) ?_
  intro j u hj
  have hb := zcc (H := fun g => cx.H g \/ ∃ j, j ≠ i /\ At e st.m j g) (hS.mem.cells i t cs hi) (hS.mem.others ⟨_, hi, rfl⟩)
  refine ⟨_, rfl, ?_⟩
  rw [zbl, cell_of_row _ (e.blk i) (0 + j) _ _ _ hb, zbo e hp]
  simpa using hj
end Go.Proofs.Sym
namespace Go.Proofs.YtmkpiekbpakigaaDoor
open Go.RowKit Go.Proofs.Base Go.Proofs.Sym
def zde (c : Int) : Bool := (decide (97 <= c) && decide (c <= 122)) || (decide (65 <= c) && decide (c <= 90))
def zmo (c : Int) : Bool := decide (48 <= c) && decide (c <= 57)
theorem zi4 (c : UInt8) : zde (c.toNat : Int) = zdt (c.toNat : Int) := by
 have h : ∀ n : Fin 256, zde (n.val : Int) = zdt (n.val : Int) := by decide +kernel
 exact h ⟨c.toNat, c.toNat_lt⟩
def zhw (c : Int) : Bool := zde c || zmo c || decide (c = 95)
theorem zt3 (c : UInt8) : zhw (c.toNat : Int) = zmx (c.toNat : Int) := by
 unfold zhw zmx
 rw [zi4]
 rfl
def zd6 : Bool -> List UInt8 -> Option Bool
 | b, [] => some b
 | b, c :: r => if (b && !zde (c.toNat : Int)) = true then none else if c = 46 then zd6 true r else if zhw (c.toNat : Int) = true then zd6 false r else none
theorem zvq : zde ((46 : UInt8).toNat : Int) = false := by decide
theorem zej {c : Int} (h : zde c = true) : zhw c = true := by
 unfold zhw
 rw [h]
 rfl
theorem zpx : ∀ (l : List UInt8) (x : List UInt8) (xs : List (List UInt8)), za5 l = x :: xs ->
  (decide (zd6 true l = some false) = (zgk x && xs.all zgk)) /\ (decide (zd6 false l = some false) = (zjz x && xs.all zgk))
 | [], x, xs, h => by
  cases h
  exact ⟨by decide, by decide⟩
 | c :: r, x, xs, h => by
  rw [za5] at h
  cases hr : za5 r with
  | nil => exact absurd hr (zgi r)
  | cons y ys =>
  rw [hr] at h
  simp only at h
  obtain ⟨h1, h2⟩ := zpx r y ys hr
  have hl := zi4 c
  have hs := zt3 c
  by_cases hc : c = 46
  ·subst hc
   rw [if_pos (by decide)] at h
   cases h
   refine ⟨?_, ?_⟩
   ·rw [zd6, if_pos (by rw [zvq]; rfl)]
    rfl
   ·rw [zd6, if_neg (by rw [Bool.false_and]; decide), if_pos rfl, h1]
    rfl
  ·rw [if_neg (by simpa using hc)] at h
   cases h
   refine ⟨?_, ?_⟩
   ·rw [zd6, zgk, <- hl]
    cases hlc : zde (c.toNat : Int) with
    | false =>
     rw [if_pos (by decide)]
     rfl
    | true =>
     rw [if_neg (by decide), if_neg hc, if_pos (zej hlc), h2, zjz, <- hs, zej hlc]
     rfl
   ·rw [zd6, if_neg (by rw [Bool.false_and]; decide), if_neg hc, zjz, <- hs]
    cases hsc : zhw (c.toNat : Int) with
    | false =>
     rw [if_neg (by decide)]
     rfl
    | true =>
     rw [if_pos rfl, h2]
     rfl
def zgy : List UInt8 -> Option (List UInt8)
 | [] => none
 | c :: r => if c = 32 then some [] else (zgy r).map (c :: ·)
def segs : List UInt8 -> List (List UInt8)
 | [] => []
 | b :: r => if b = 32 then (match zgy r with | some x => x :: segs r | none => segs r) else segs r
theorem zk7 (b : UInt8) (r sub : List UInt8) : Lib.contains (b :: r) sub = (sub.isPrefixOf (b :: r) || Lib.contains r sub) := by
 have := Lib.index_ge r sub
 unfold Lib.contains
 rw [Lib.index]
 cases h : sub.isPrefixOf (b :: r) with
 | true => simp
 | false =>
  rw [if_neg (by decide)]
  by_cases h2 : Lib.index r sub = -1
  ·rw [if_pos (by rw [h2]; rfl), h2]
   rfl
  ·rw [if_neg (by simpa using h2), Bool.false_or]
   rw [decide_eq_decide]
   omega
theorem zhk : ∀ (l r : List UInt8), (∀ c ∈ l, c ≠ 32) -> (l ++ [32]).isPrefixOf r = decide (zgy r = some l)
 | [], [], _ => by decide
 | [], c :: r, _ => by
  rw [List.nil_append, zgy]
  by_cases hc : c = 32
  ·subst hc
   rw [if_pos rfl]
   cases r <;> rfl
  ·rw [if_neg hc]
   have h1 : ([32] : List UInt8).isPrefixOf (c :: r) = false := by
    simp [List.isPrefixOf]
    exact fun h => hc h.symm
   rw [h1]
   cases zgy r <;> simp
 | x :: l, [], _ => by
  simp [List.isPrefixOf, zgy]
 | x :: l, c :: r, h => by
  have hx := h x List.mem_cons_self
  have ih := zhk l r (fun c hc => h c (List.mem_cons_of_mem _ hc))
  rw [List.cons_append, List.isPrefixOf, ih, zgy]
  by_cases hc : c = 32
  ·subst hc
   rw [if_pos rfl]
   simp [hx]
  ·rw [if_neg hc]
   cases zgy r with
   | none => simp
   | some y =>
    simp only [Option.map_some, Option.some.injEq, List.cons.injEq]
    by_cases hxc : x = c
    ·subst hxc
     simp
    ·have : (x == c) = false := by simpa using hxc
     rw [this, decide_eq_false (p := c = x /\ y = l) (fun h => hxc h.1.symm)]
     simp
theorem zhg (l : List UInt8) (h : ∀ c ∈ l, c ≠ 32) : ∀ R : List UInt8, Lib.contains R (32 :: (l ++ [32])) = (segs R).any (fun x => decide (x = l))
 | [] => by
  unfold Lib.contains
  rw [Lib.index]
  rfl
 | b :: r => by
  rw [zk7, zhg l h r, List.isPrefixOf, zhk l r h, segs]
  by_cases hb : b = 32
  ·subst hb
   rw [if_pos rfl]
   cases zgy r with
   | none => simp
   | some x => simp
  ·rw [if_neg hb]
   have : ((32 : UInt8) == b) = false := by
    simp
    exact fun h => hb h.symm
   rw [this]
   rfl
def zf8 : List (List UInt8) := [[80, 114, 111, 112], [84, 121, 112, 101], [102, 117, 110], [97, 108, 108], [108, 101, 116], [105, 110], [111, 102], [119, 105, 116, 104], [97, 120, 105, 111, 109], [100, 101, 102], [116, 104, 101, 111, 114, 101, 109], [102, 97, 109, 105, 108, 121], [117, 48], [117, 49], [117, 50], [117, 51]]
theorem zkz : segs ziy = zf8 := by decide +kernel
theorem zhm : ∀ (l : List UInt8) (b c : Bool), zd6 b l = some c -> ∀ x ∈ l, x ≠ 32
 | [], _, _, _ => fun x hx => by cases hx
 | d :: r, b, c, h => by
  rw [zd6] at h
  split at h
  ·cases h
  ·intro x hx
   rcases List.mem_cons.1 hx with rfl | hx
   ·rintro rfl
    split at h
    ·rename_i h2
     revert h2
     decide
    ·split at h
     ·rename_i h3
      revert h3
      decide
     ·cases h
   ·split at h
    ·exact zhm r _ _ h x hx
    ·split at h
     ·exact zhm r _ _ h x hx
     ·cases h
def zm6 (l : List UInt8) : Bool := match zd6 true l with
 | none => false
 | some b => !zf8.any (fun x => decide (x = l)) && !b
theorem zta (s : ByteArray) : (decide (1 <= s.size) && (decide (s.size <= 32) && zm6 s.data.toList)) = zdf s := by
 obtain ⟨⟨l⟩⟩ := s
 show (decide (1 <= l.length) && (decide (l.length <= 32) && zm6 l)) = (decide (l.length <= 32) && !zdl ⟨⟨l⟩⟩ && (za5 l).all zgk)
 have hres : (∀ c ∈ l, c ≠ 32) -> zdl ⟨⟨l⟩⟩ = zf8.any (fun x => decide (x = l)) := fun h => by
  rw [<- zkz, <- zhg l h ziy]
  rfl
 cases hs : za5 l with
 | nil => exact absurd hs (zgi l)
 | cons x xs =>
 have h1 := (zpx l x xs hs).1
 rw [List.all_cons, <- h1]
 have h0 : l = [] -> zd6 true l = some true := fun h => by rw [h]; rfl
 unfold zm6
 cases hw : zd6 true l with
 | none => simp
 | some b =>
  simp only
  rw [hres (zhm l _ _ hw)]
  cases b with
  | true => simp
  | false =>
   have hl : 1 <= l.length := by
    cases l with
    | nil => rw [h0 rfl] at hw; cases hw
    | cons => simp
   rw [decide_eq_true hl]
   simp
end Go.Proofs.YtmkpiekbpakigaaDoor
end
section
set_option linter.unusedVariables false
set_option linter.unusedSimpArgs false
namespace Go.Proofs.YtmkpiekbpakigaaDoor
open Go.RowKit Go.Proofs.Base Go.Proofs.Sym
theorem zq6 (c : Int) : PCall Tryd.prog 90 [.int .u8 c] (fun _ => True) (fun r => r = .bool (zde c)) (fun _ _ => True) := by
 refine zat zae 17 [.tmp 2] Tryd.func90 rfl rfl (by kernel_rfl) rfl _ (leB rfl) Up.true (fun _ => Up.true) ?_
 refine zah zae [] _ _ _ ?_
 have fin : ∀ b1 b2 b3 b4, decide (97 <= c) = b1 -> decide (c <= 122) = b2 -> decide (65 <= c) = b3 -> decide (c <= 90) = b4 -> zde c = ((b1 && b2) || (b3 && b4)) := fun b1 b2 b3 b4 h1 h2 h3 h4 => by rw [zde, h1, h2, h3, h4]
 obtain ⟨b2, e2⟩ : ∃ b, decide (c <= 122) = b := ⟨_, rfl⟩
 obtain ⟨b3, e3⟩ : ∃ b, decide (65 <= c) = b := ⟨_, rfl⟩
 obtain ⟨b4, e4⟩ : ∃ b, decide (c <= 90) = b := ⟨_, rfl⟩
 refine zaf (fun h1 => ?_) (fun h1 => ?_)
 ·refine zaf (fun h2 => ?_) (fun h2 => ?_)
  ·exact ⟨_, rfl, Told.val (by rw [fin _ _ _ _ h1 h2 e3 e4]; cases b3 <;> cases b4 <;> rfl)⟩
  ·refine zaf (fun h3 => ?_) (fun h3 => ?_)
   ·exact ⟨_, rfl, Told.val (by rw [fin _ _ _ _ h1 h2 h3 rfl]; rfl)⟩
   ·exact ⟨_, rfl, Told.val (by rw [fin _ _ _ _ h1 h2 h3 e4]; cases b4 <;> rfl)⟩
 ·refine zaf (fun h3 => ?_) (fun h3 => ?_)
  ·exact ⟨_, rfl, Told.val (by rw [fin _ _ _ _ h1 e2 h3 rfl]; cases b2 <;> rfl)⟩
  ·exact ⟨_, rfl, Told.val (by rw [fin _ _ _ _ h1 e2 h3 e4]; cases b2 <;> cases b4 <;> rfl)⟩
theorem zue (c : Int) : PCall Tryd.prog 91 [.int .u8 c] (fun _ => True) (fun r => r = .bool (zmo c)) (fun _ _ => True) := by
 refine zat zae 9 [.tmp 2] Tryd.func91 rfl rfl (by kernel_rfl) rfl _ (leB rfl) Up.true (fun _ => Up.true) ?_
 refine zah zae [] _ _ _ ?_
 refine zaf (fun h1 => ?_) (fun h1 => ?_)
 ·have h1 : decide (48 <= c) = true := h1
  exact ⟨_, rfl, Told.val (by rw [zmo, h1]; rfl)⟩
 ·have h1 : decide (48 <= c) = false := h1
  exact ⟨_, rfl, Told.val (by rw [zmo, h1]; rfl)⟩
theorem zwm {L : List UInt8} {j : Nat} (h : j < L.length) (b : Bool) : zd6 b (L.drop j) = (if (b && !zde ((L.getD j 0).toNat : Int)) = true then none else if L.getD j 0 = 46 then zd6 true (L.drop (j + 1)) else if zhw ((L.getD j 0).toNat : Int) = true then zd6 false (L.drop (j + 1)) else none) := by
 rw [List.drop_eq_getElem_cons h, zd6]
 simp [List.getD, List.getElem?_eq_getElem h]
theorem zql {x : List UInt8} {s : ByteArray} : ((⟨x.toArray⟩ : ByteArray) = s) ↔ x = s.data.toList := by
 obtain ⟨⟨l⟩⟩ := s
 constructor
 ·intro h
  cases h
  rfl
 ·rintro rfl
  rfl
def zqu : List Value := zf8.map fun x => .string ⟨x.toArray⟩
theorem zvn {s : ByteArray} {b : Bool} (h1 : 1 <= s.size) (h2 : s.size <= 32) (hb : zm6 s.data.toList = b) : zdf s = b := by
 rw [<- zta, decide_eq_true h1, decide_eq_true h2, hb]
 rfl
theorem zj9 {L : List UInt8} (h : zd6 true L = none) : zm6 L = false := by
 unfold zm6
 rw [h]
theorem zrt {L : List UInt8} {b : Bool} (h : zd6 true L = some b) : zm6 L = (!zf8.any (fun x => decide (x = L)) && !b) := by
 unfold zm6
 rw [h]
set_option maxHeartbeats 2000000 in
theorem zv8 (s : ByteArray) : PCall Tryd.prog 42 [.string s] (fun _ => True) (fun r => r = .bool (zdf s)) (fun _ _ => True) := by
 refine zat zae 69 [.tmp 2] Tryd.func42 rfl rfl (by kernel_rfl) rfl _ (leB rfl) Up.true (fun _ => Up.true) ?_
 have hsz := zg3 s
 have hend := fun b => @zvn s b
 obtain ⟨W, hW⟩ : ∃ W, zdf s = W := ⟨_, rfl⟩
 have hW1 := (zta s).trans hW
 rw [hW] at hend
 rw [hW]
 refine zah zae [15] _ _ _ ?_
 refine zaf (fun h1 => ?_) (fun h1 => ?_)
 ·have h1 : decide ((s.size : Int) < 1) = true := h1
  have h1 := of_decide_eq_true h1
  rw [decide_eq_false (by omega)] at hW1
  exact ⟨_, rfl, Told.val (by rw [<- hW1]; rfl)⟩
 have h1 : decide ((s.size : Int) < 1) = false := h1
 have h1 := of_decide_eq_false h1
 refine zaf (fun h2 => ?_) (fun h2 => ?_)
 ·have h2 : decide ((32 : Int) < (s.size : Int)) = true := h2
  have h2 := of_decide_eq_true h2
  rw [decide_eq_false (p := s.size <= 32) (by omega)] at hW1
  exact ⟨_, rfl, Told.val (by rw [<- hW1, Bool.false_and, Bool.and_false])⟩
 have h2 : decide ((32 : Int) < (s.size : Int)) = false := h2
 have h2 := of_decide_eq_false h2
 have hend := fun b => hend b (by omega) (by omega)
 clear hW1 hW
 refine ⟨⟨Nat × Bool, fun x => x.1 <= s.size /\ zd6 true s.data.toList = zd6 x.2 (s.data.toList.drop x.1),
  fun x => { s := [(0, .one (.v (.string s))), (3, .one (.v (.bool x.2))), (4, .one (.v (.int .i64 (x.1 : Int))))], m := [], k := 0, f := [] },
  fun x => s.size - x.1, ⟨(0, true), ⟨Nat.zero_le _, rfl⟩, ?_⟩, ?_⟩⟩
 ·exact zab [] rfl rfl rfl rfl (Nat.zero_le _) ⟨⟨_, rfl, rfl⟩, ⟨_, rfl, rfl⟩, ⟨_, rfl, rfl⟩, trivial⟩ trivial trivial
 rintro ⟨j, b⟩ ⟨hj, hsc⟩
 simp only at hj hsc
 refine zaf (fun hlt => ?_) (fun hge => ?_)
 rotate_left
 ·have hge : s.size <= j := by
   have h : decide ((j : Int) < (s.size : Int)) = false := hge
   have := of_decide_eq_false h
   omega
  rw [List.drop_eq_nil_of_le (by omega)] at hsc
  have hw := zrt (b := b) hsc
  refine zak.blk 0 rfl rfl (fun g => ?_)
  refine zak.ent (st' := { s := [(0, .one (.v (.string s))), (3, .one (.v (.bool b))), (5, .one (.v (.slice (some ⟨g, 0, none⟩) 16 16)))], m := [], k := 0, f := [fun w => SlAt w (some ⟨g, 0, none⟩) zqu] }) (zab [] rfl rfl rfl rfl (Nat.zero_le _) ⟨⟨_, rfl, rfl⟩, ⟨_, rfl, rfl⟩, ⟨_, rfl, rfl⟩, trivial⟩ trivial ⟨⟨SlAt.up _ _, fun w h => h.1⟩, trivial⟩) ?_
  refine zah zae [] _ _ _ ?_
  refine ⟨⟨Nat, fun j => j <= 16 /\ (zf8.take j).any (fun x => decide (x = s.data.toList)) = false,
   fun j => { s := [(0, .one (.v (.string s))), (3, .one (.v (.bool b))), (5, .one (.v (.slice (some ⟨g, 0, none⟩) 16 16))), (6, .one (.v (.int .i64 (j : Int))))], m := [], k := 0, f := [fun w => SlAt w (some ⟨g, 0, none⟩) zqu] },
   fun j => 16 - j, ⟨0, ⟨Nat.zero_le _, rfl⟩, ?_⟩, ?_⟩⟩
  ·exact zab [] rfl rfl rfl rfl (Nat.zero_le _) ⟨⟨_, rfl, rfl⟩, ⟨_, rfl, rfl⟩, ⟨_, rfl, rfl⟩, ⟨_, rfl, rfl⟩, trivial⟩ trivial ⟨⟨SlAt.up _ _, fun w h => h.1⟩, trivial⟩
  rintro q ⟨hq, hany⟩
  refine zaf (fun hlt => ?_) (fun hge => ?_)
  ·have hlt : q < 16 := by
    have h : decide ((q : Int) < 16) = true := hlt
    have := of_decide_eq_true h
    omega
   have hlen : zf8.length = 16 := rfl
   obtain ⟨x, hx⟩ : ∃ x, zf8[q]? = some x := ⟨_, List.getElem?_eq_getElem (by omega)⟩
   refine ⟨{ n := q }, ⟨rfl, hlt, fun w h => rfl⟩, ?_⟩
   refine ⟨{ v := .string ⟨x.toArray⟩ }, fun w h => ?_, ?_⟩
   ·obtain ⟨a, ha, hcell⟩ := h.1 q _ (show zqu[q]? = some (.string ⟨x.toArray⟩) by rw [zqu, List.getElem?_map, hx]; rfl)
    cases ha
    exact ⟨_, rfl, by rw [Nat.mul_one]; exact hcell⟩
   refine zaf (fun he => ?_) (fun he => ?_)
   ·have he : decide ((⟨x.toArray⟩ : ByteArray) = s) = true := he
    have he := zql.1 (of_decide_eq_true he)
    have : zf8.any (fun x => decide (x = s.data.toList)) = true := List.any_eq_true.2 ⟨x, List.mem_of_getElem? hx, decide_eq_true he⟩
    rw [this] at hw
    exact ⟨_, rfl, Told.val (by rw [hend _ hw]; rfl)⟩
   ·have he : decide ((⟨x.toArray⟩ : ByteArray) = s) = false := he
    have he := of_decide_eq_false he
    refine ⟨q + 1, ⟨hlt, ?_⟩, by simp only; omega, ?_⟩
    ·rw [List.take_add_one, hx, List.any_append, hany]
     simp only [Option.toList, List.any_cons, List.any_nil]
     rw [decide_eq_false (fun h => he (zql.2 h))]
     rfl
    ·exact zab [] rfl rfl rfl rfl (Nat.zero_le _) ⟨⟨_, rfl, rfl⟩, ⟨_, rfl, rfl⟩, ⟨_, rfl, rfl⟩, ⟨_, rfl, oneI (zbn (by omega) (by omega))⟩, trivial⟩ trivial ⟨⟨SlAt.up _ _, fun w h => h.1⟩, trivial⟩
  ·have hge : 16 <= q := by
    have h : decide ((q : Int) < 16) = false := hge
    have := of_decide_eq_false h
    omega
   rw [List.take_of_length_le (show zf8.length <= q from hge)] at hany
   rw [hany] at hw
   exact ⟨_, rfl, Told.val (by rw [hend _ hw]; rfl)⟩
 have hlt2 : j < s.size := by
  have h : decide ((j : Int) < (s.size : Int)) = true := hlt
  have := of_decide_eq_true h
  omega
 clear hlt
 have hlt := hlt2
 clear hlt2
 rw [zwm (by omega)] at hsc
 -- ROUND
 have hl := zq6 ((s.data.toList.getD j 0).toNat : Int)
 have hd := zue ((s.data.toList.getD j 0).toNat : Int)
 have hc46 : decide (((s.data.toList.getD j 0).toNat : Int) = 46) = decide (s.data.toList.getD j 0 = 46) := by
  rw [decide_eq_decide]
  have e46 : (46 : UInt8).toNat = 46 := rfl
  constructor
  ·intro h
   exact UInt8.toNat_inj.1 (by omega)
  ·intro h
   rw [h]
   rfl
 obtain ⟨dv, hdv⟩ : ∃ b, zmo ((s.data.toList.getD j 0).toNat : Int) = b := ⟨_, rfl⟩
 rw [hdv] at hd
 obtain ⟨lv, hlv⟩ : ∃ b, zde ((s.data.toList.getD j 0).toNat : Int) = b := ⟨_, rfl⟩
 rw [hlv] at hl hsc
 cases lv with
 | false =>
  cases b with
  | true =>
   rw [if_pos (show (true && !false) = true from rfl)] at hsc
   refine ⟨{ n := j }, ⟨rfl, hlt⟩, ?_⟩
   refine zag hl (fun _ => rfl) (fun _ _ => trivial) ?_
   rintro r rfl
   exact ⟨_, rfl, Told.val (by rw [hend _ (zj9 hsc)])⟩
  | false =>
   rw [if_neg (show ¬ (false && !false) = true by decide)] at hsc
   refine ⟨{ n := j }, ⟨rfl, hlt⟩, ?_⟩
   refine zaf (fun h46 => ?_) (fun h46 => ?_)
   ·have h46 : decide (((s.data.toList.getD j 0).toNat : Int) = 46) = true := h46
    rw [hc46] at h46
    rw [if_pos (of_decide_eq_true h46)] at hsc
    refine ⟨(j + 1, true), ⟨hlt, hsc⟩, by simp only; omega, ?_⟩
    exact zab [] rfl rfl rfl rfl (Nat.zero_le _) ⟨⟨_, rfl, rfl⟩, ⟨_, rfl, rfl⟩, ⟨_, rfl, oneI (zbn (by omega) (by omega))⟩, trivial⟩ trivial trivial
   have h46 : decide (((s.data.toList.getD j 0).toNat : Int) = 46) = false := h46
   rw [hc46] at h46
   rw [if_neg (of_decide_eq_false h46)] at hsc
   refine ⟨{ n := j }, ⟨rfl, hlt⟩, ?_⟩
   refine zag hl (fun _ => rfl) (fun _ _ => trivial) ?_
   rintro r rfl
   cases dv with
   | true =>
    refine ⟨{ n := j }, ⟨rfl, hlt⟩, ?_⟩
    refine zag hd (fun _ => rfl) (fun _ _ => trivial) ?_
    rintro r rfl
    rw [if_pos (show zhw ((s.data.toList.getD j 0).toNat : Int) = true by rw [zhw, hlv, hdv]; rfl)] at hsc
    refine ⟨(j + 1, false), ⟨hlt, hsc⟩, by simp only; omega, ?_⟩
    exact zab [] rfl rfl rfl rfl (Nat.zero_le _) ⟨⟨_, rfl, rfl⟩, ⟨_, rfl, rfl⟩, ⟨_, rfl, oneI (zbn (by omega) (by omega))⟩, trivial⟩ trivial trivial
   | false =>
    refine ⟨{ n := j }, ⟨rfl, hlt⟩, ?_⟩
    refine zag hd (fun _ => rfl) (fun _ _ => trivial) ?_
    rintro r rfl
    refine ⟨{ n := j }, ⟨rfl, hlt⟩, ?_⟩
    refine zaf (fun h95 => ?_) (fun h95 => ?_)
    ·have h95 : (!decide (((s.data.toList.getD j 0).toNat : Int) = 95)) = true := h95
     rw [if_neg (show ¬ zhw ((s.data.toList.getD j 0).toNat : Int) = true by rw [zhw, hlv, hdv]; intro h; rw [show decide (((s.data.toList.getD j 0).toNat : Int) = 95) = true from h] at h95; cases h95)] at hsc
     exact ⟨_, rfl, Told.val (by rw [hend _ (zj9 hsc)])⟩
    ·have h95 : (!decide (((s.data.toList.getD j 0).toNat : Int) = 95)) = false := h95
     rw [if_pos (show zhw ((s.data.toList.getD j 0).toNat : Int) = true by rw [zhw, hlv, hdv]; cases hq : decide (((s.data.toList.getD j 0).toNat : Int) = 95) with | true => rfl | false => rw [hq] at h95; cases h95)] at hsc
     refine ⟨(j + 1, false), ⟨hlt, hsc⟩, by simp only; omega, ?_⟩
     exact zab [] rfl rfl rfl rfl (Nat.zero_le _) ⟨⟨_, rfl, rfl⟩, ⟨_, rfl, rfl⟩, ⟨_, rfl, oneI (zbn (by omega) (by omega))⟩, trivial⟩ trivial trivial
 | true =>
  rw [if_neg (show ¬ (b && !true) = true by cases b <;> decide)] at hsc
  cases b with
  | true =>
   refine ⟨{ n := j }, ⟨rfl, hlt⟩, ?_⟩
   refine zag hl (fun _ => rfl) (fun _ _ => trivial) ?_
   rintro r rfl
   refine ⟨{ n := j }, ⟨rfl, hlt⟩, ?_⟩
   refine zaf (fun h46 => ?_) (fun h46 => ?_)
   ·have h46 : decide (((s.data.toList.getD j 0).toNat : Int) = 46) = true := h46
    rw [hc46] at h46
    rw [if_pos (of_decide_eq_true h46)] at hsc
    refine ⟨(j + 1, true), ⟨hlt, hsc⟩, by simp only; omega, ?_⟩
    exact zab [] rfl rfl rfl rfl (Nat.zero_le _) ⟨⟨_, rfl, rfl⟩, ⟨_, rfl, rfl⟩, ⟨_, rfl, oneI (zbn (by omega) (by omega))⟩, trivial⟩ trivial trivial
   have h46 : decide (((s.data.toList.getD j 0).toNat : Int) = 46) = false := h46
   rw [hc46] at h46
   rw [if_neg (of_decide_eq_false h46)] at hsc
   refine ⟨{ n := j }, ⟨rfl, hlt⟩, ?_⟩
   refine zag hl (fun _ => rfl) (fun _ _ => trivial) ?_
   rintro r rfl
   rw [if_pos (zej hlv)] at hsc
   refine ⟨(j + 1, false), ⟨hlt, hsc⟩, by simp only; omega, ?_⟩
   exact zab [] rfl rfl rfl rfl (Nat.zero_le _) ⟨⟨_, rfl, rfl⟩, ⟨_, rfl, rfl⟩, ⟨_, rfl, oneI (zbn (by omega) (by omega))⟩, trivial⟩ trivial trivial
  | false =>
   refine ⟨{ n := j }, ⟨rfl, hlt⟩, ?_⟩
   refine zaf (fun h46 => ?_) (fun h46 => ?_)
   ·have h46 : decide (((s.data.toList.getD j 0).toNat : Int) = 46) = true := h46
    rw [hc46] at h46
    rw [if_pos (of_decide_eq_true h46)] at hsc
    refine ⟨(j + 1, true), ⟨hlt, hsc⟩, by simp only; omega, ?_⟩
    exact zab [] rfl rfl rfl rfl (Nat.zero_le _) ⟨⟨_, rfl, rfl⟩, ⟨_, rfl, rfl⟩, ⟨_, rfl, oneI (zbn (by omega) (by omega))⟩, trivial⟩ trivial trivial
   have h46 : decide (((s.data.toList.getD j 0).toNat : Int) = 46) = false := h46
   rw [hc46] at h46
   rw [if_neg (of_decide_eq_false h46)] at hsc
   refine ⟨{ n := j }, ⟨rfl, hlt⟩, ?_⟩
   refine zag hl (fun _ => rfl) (fun _ _ => trivial) ?_
   rintro r rfl
   rw [if_pos (zej hlv)] at hsc
   refine ⟨(j + 1, false), ⟨hlt, hsc⟩, by simp only; omega, ?_⟩
   exact zab [] rfl rfl rfl rfl (Nat.zero_le _) ⟨⟨_, rfl, rfl⟩, ⟨_, rfl, rfl⟩, ⟨_, rfl, oneI (zbn (by omega) (by omega))⟩, trivial⟩ trivial trivial
end Go.Proofs.YtmkpiekbpakigaaDoor
end
section
set_option linter.unusedVariables false
set_option linter.unusedSimpArgs false
namespace Go.Proofs.YtmkpiekbpakigaaDoor
open Go.RowKit Go.Proofs.Base Go.Proofs.Sym
theorem Lv.right_all {l : Lv} (h0 : 0 <= l.b) (h1 : l.b <= 100) (h : ∀ i, i < 4 -> -1 <= l.p i /\ l.p i <= l.b) : l.right = true := by
 unfold Lv.right
 exact decide_eq_true ⟨h 0 (by decide), h 1 (by decide), h 2 (by decide), h 3 (by decide), h0, h1⟩
theorem Lv.right_no {l : Lv} {i : Nat} (hi : i < 4) (h : ¬ (-1 <= l.p i /\ l.p i <= l.b)) : l.right = false := by
 unfold Lv.right
 refine decide_eq_false fun ⟨g0, g1, g2, g3, _⟩ => h ?_
 match i, hi with
 | 0, _ => exact g0
 | 1, _ => exact g1
 | 2, _ => exact g2
 | 3, _ => exact g3
theorem Lv.right_nob {l : Lv} (h : ¬ (0 <= l.b /\ l.b <= 100)) : l.right = false := by
 unfold Lv.right
 exact decide_eq_false fun ⟨_, _, _, _, g⟩ => h g
set_option maxHeartbeats 2000000 in
theorem zpd (l : Lv) : PCall Tryd.prog 133 [l.val] (fun _ => True) (fun r => r = .bool l.right) (fun _ _ => True) := by
 have hall := @Lv.right_all l
 have hno := fun i => @Lv.right_no l i
 have hnob := @Lv.right_nob l
 obtain ⟨R, hR⟩ : ∃ R, l.right = R := ⟨_, rfl⟩
 rw [hR] at hall hno hnob ⊢
 clear hR
 obtain ⟨b, p0, p1, p2, p3⟩ := l
 have hall : 0 <= b -> b <= 100 -> (∀ i, i < 4 -> -1 <= (Lv.mk b p0 p1 p2 p3).p i /\ (Lv.mk b p0 p1 p2 p3).p i <= b) -> R = true := hall
 have hno : ∀ i, i < 4 -> ¬ (-1 <= (Lv.mk b p0 p1 p2 p3).p i /\ (Lv.mk b p0 p1 p2 p3).p i <= b) -> R = false := fun i h1 h2 => hno i h1 h2
 have hnob : ¬ (0 <= b /\ b <= 100) -> R = false := hnob
 refine zat zae 37 [.tmp 2] Tryd.func133 rfl rfl (by kernel_rfl) rfl _ (leB rfl) Up.true (fun _ => Up.true) ?_
 refine zah zae [6] _ _ _ ?_
 refine zaf (fun h1 => ?_) (fun h1 => ?_)
 ·have h1 : decide (b < 0) = true := h1
  have h1 := of_decide_eq_true h1
  exact ⟨_, rfl, Told.val (by rw [hnob (by omega)])⟩
 have h1 : decide (b < 0) = false := h1
 have h1 := of_decide_eq_false h1
 refine zaf (fun h2 => ?_) (fun h2 => ?_)
 ·have h2 : decide (100 < b) = true := h2
  have h2 := of_decide_eq_true h2
  exact ⟨_, rfl, Told.val (by rw [hnob (by omega)])⟩
 have h2 : decide (100 < b) = false := h2
 have h2 := of_decide_eq_false h2
 refine ⟨⟨Nat, fun j => j <= 4 /\ ∀ i, i < j -> -1 <= (Lv.mk b p0 p1 p2 p3).p i /\ (Lv.mk b p0 p1 p2 p3).p i <= b,
  fun j => { s := [(1, .one (.p 0 0)), (3, .one (.v (.int .i64 (j : Int))))], m := [(0, .cells 24 [.v (.int .i64 b), .v (.int .i64 p0), .v (.int .i64 p1), .v (.int .i64 p2), .v (.int .i64 p3)])], k := 1, f := [] },
  fun j => 4 - j, ⟨0, ⟨Nat.zero_le _, fun i hi => absurd hi (Nat.not_lt_zero _)⟩, ?_⟩, ?_⟩⟩
 ·exact zab [(0, .blk 0)] rfl rfl rfl rfl (leB rfl) (rs rfl rfl) (rm rfl rfl) trivial
 rintro j ⟨hj, hok⟩
 refine zaf (fun hlt => ?_) (fun hge => ?_)
 rotate_left
 ·have hge : 4 <= j := by
   have h : decide ((j : Int) < 4) = false := hge
   have := of_decide_eq_false h
   omega
  exact ⟨_, rfl, Told.val (by rw [hall (by omega) (by omega) (fun i hi => hok i (by omega))])⟩
 have hlt : j < 4 := by
  have h : decide ((j : Int) < 4) = true := hlt
  have := of_decide_eq_true h
  omega
 match j, hlt, hok with
 | 0, _, hok =>
  obtain ⟨c1, e1⟩ : ∃ c, decide (p0 < -1) = c := ⟨_, rfl⟩
  obtain ⟨c2, e2⟩ : ∃ c, decide (100 < p0) = c := ⟨_, rfl⟩
  obtain ⟨c3, e3⟩ : ∃ c, decide (b < p0) = c := ⟨_, rfl⟩
  refine zah zae [] _ _ _ ?_
  cases c1 with
  | true =>
   refine .inl ⟨21, [0, 0, 3, 7, 15, 31, 63, 63, 255, 511, 1023, 2047, 4095, 8191, 8191, 32767, 65535, 8191, 139263, 524287, 1048575], fun vs i => match i with
    | 2 => { c := { n := 0 } }
    | 4 => { b := some true }
    | _ => {}, by kernel_rfl, rfl, by kernel_rfl, by kernel_rfl, by kernel_rfl, by decide, fun vals => ?_⟩
   refine ⟨fun _ => ⟨rfl, (show 0 < 4 by decide)⟩, ?_⟩
   refine ⟨fun _ => e1, ?_⟩
   intro _
   have h := of_decide_eq_true e1
   have hq : (Lv.mk b p0 p1 p2 p3).p 0 = p0 := rfl
   exact ⟨_, rfl, Told.val (by rw [hno 0 (by decide) (by rw [hq]; omega)])⟩
  | false =>
  cases c2 with
  | true =>
   refine .inl ⟨21, [0, 0, 3, 7, 15, 31, 63, 63, 255, 511, 1023, 2047, 4095, 8191, 8191, 32767, 65535, 8191, 139263, 524287, 1048575], fun vs i => match i with
    | 2 => { c := { n := 0 } }
    | 4 => { b := some false }
    | 8 => { c := { n := 0 } }
    | 10 => { b := some true }
    | _ => {}, by kernel_rfl, rfl, by kernel_rfl, by kernel_rfl, by kernel_rfl, by decide, fun vals => ?_⟩
   refine ⟨fun _ => ⟨rfl, (show 0 < 4 by decide)⟩, ?_⟩
   refine ⟨fun _ => e1, ?_⟩
   refine ⟨fun _ => ⟨rfl, (show 0 < 4 by decide)⟩, ?_⟩
   refine ⟨fun _ => e2, ?_⟩
   intro _
   have h := of_decide_eq_true e2
   have hq : (Lv.mk b p0 p1 p2 p3).p 0 = p0 := rfl
   exact ⟨_, rfl, Told.val (by rw [hno 0 (by decide) (by rw [hq]; omega)])⟩
  | false =>
  cases c3 with
  | true =>
   refine .inl ⟨21, [0, 0, 3, 7, 15, 31, 63, 63, 255, 511, 1023, 2047, 4095, 8191, 8191, 32767, 65535, 8191, 139263, 524287, 1048575], fun vs i => match i with
    | 2 => { c := { n := 0 } }
    | 4 => { b := some false }
    | 8 => { c := { n := 0 } }
    | 10 => { b := some false }
    | 15 => { c := { n := 0 } }
    | 19 => { b := some true }
    | _ => {}, by kernel_rfl, rfl, by kernel_rfl, by kernel_rfl, by kernel_rfl, by decide, fun vals => ?_⟩
   refine ⟨fun _ => ⟨rfl, (show 0 < 4 by decide)⟩, ?_⟩
   refine ⟨fun _ => e1, ?_⟩
   refine ⟨fun _ => ⟨rfl, (show 0 < 4 by decide)⟩, ?_⟩
   refine ⟨fun _ => e2, ?_⟩
   refine ⟨fun _ => ⟨rfl, (show 0 < 4 by decide)⟩, ?_⟩
   refine ⟨fun _ => e3, ?_⟩
   intro _
   have h := of_decide_eq_true e3
   have hq : (Lv.mk b p0 p1 p2 p3).p 0 = p0 := rfl
   exact ⟨_, rfl, Told.val (by rw [hno 0 (by decide) (by rw [hq]; omega)])⟩
  | false =>
   refine .inl ⟨21, [0, 0, 3, 7, 15, 31, 63, 63, 255, 511, 1023, 2047, 4095, 8191, 8191, 32767, 65535, 8191, 139263, 524287, 1048575], fun vs i => match i with
    | 2 => { c := { n := 0 } }
    | 4 => { b := some false }
    | 8 => { c := { n := 0 } }
    | 10 => { b := some false }
    | 15 => { c := { n := 0 } }
    | 19 => { b := some false }
    | _ => {}, by kernel_rfl, rfl, by kernel_rfl, by kernel_rfl, by kernel_rfl, by decide, fun vals => ?_⟩
   refine ⟨fun _ => ⟨rfl, (show 0 < 4 by decide)⟩, ?_⟩
   refine ⟨fun _ => e1, ?_⟩
   refine ⟨fun _ => ⟨rfl, (show 0 < 4 by decide)⟩, ?_⟩
   refine ⟨fun _ => e2, ?_⟩
   refine ⟨fun _ => ⟨rfl, (show 0 < 4 by decide)⟩, ?_⟩
   refine ⟨fun _ => e3, ?_⟩
   intro _
   have h1' := of_decide_eq_false e1
   have h3' := of_decide_eq_false e3
   have hq : (Lv.mk b p0 p1 p2 p3).p 0 = p0 := rfl
   refine ⟨1, ⟨by decide, fun i hi => ?_⟩, by decide, ?_⟩
   ·by_cases hij : i = 0
    ·subst hij
     rw [hq]
     omega
    ·exact hok i (by omega)
   ·exact zab [(0, .blk 0)] rfl rfl rfl rfl (leB rfl) (rs rfl rfl) (rm rfl rfl) trivial
 | 1, _, hok =>
  obtain ⟨c1, e1⟩ : ∃ c, decide (p1 < -1) = c := ⟨_, rfl⟩
  obtain ⟨c2, e2⟩ : ∃ c, decide (100 < p1) = c := ⟨_, rfl⟩
  obtain ⟨c3, e3⟩ : ∃ c, decide (b < p1) = c := ⟨_, rfl⟩
  refine zah zae [] _ _ _ ?_
  cases c1 with
  | true =>
   refine .inl ⟨21, [0, 0, 3, 7, 15, 31, 63, 63, 255, 511, 1023, 2047, 4095, 8191, 8191, 32767, 65535, 8191, 139263, 524287, 1048575], fun vs i => match i with
    | 2 => { c := { n := 1 } }
    | 4 => { b := some true }
    | _ => {}, by kernel_rfl, rfl, by kernel_rfl, by kernel_rfl, by kernel_rfl, by decide, fun vals => ?_⟩
   refine ⟨fun _ => ⟨rfl, (show 1 < 4 by decide)⟩, ?_⟩
   refine ⟨fun _ => e1, ?_⟩
   intro _
   have h := of_decide_eq_true e1
   have hq : (Lv.mk b p0 p1 p2 p3).p 1 = p1 := rfl
   exact ⟨_, rfl, Told.val (by rw [hno 1 (by decide) (by rw [hq]; omega)])⟩
  | false =>
  cases c2 with
  | true =>
   refine .inl ⟨21, [0, 0, 3, 7, 15, 31, 63, 63, 255, 511, 1023, 2047, 4095, 8191, 8191, 32767, 65535, 8191, 139263, 524287, 1048575], fun vs i => match i with
    | 2 => { c := { n := 1 } }
    | 4 => { b := some false }
    | 8 => { c := { n := 1 } }
    | 10 => { b := some true }
    | _ => {}, by kernel_rfl, rfl, by kernel_rfl, by kernel_rfl, by kernel_rfl, by decide, fun vals => ?_⟩
   refine ⟨fun _ => ⟨rfl, (show 1 < 4 by decide)⟩, ?_⟩
   refine ⟨fun _ => e1, ?_⟩
   refine ⟨fun _ => ⟨rfl, (show 1 < 4 by decide)⟩, ?_⟩
   refine ⟨fun _ => e2, ?_⟩
   intro _
   have h := of_decide_eq_true e2
   have hq : (Lv.mk b p0 p1 p2 p3).p 1 = p1 := rfl
   exact ⟨_, rfl, Told.val (by rw [hno 1 (by decide) (by rw [hq]; omega)])⟩
  | false =>
  cases c3 with
  | true =>
   refine .inl ⟨21, [0, 0, 3, 7, 15, 31, 63, 63, 255, 511, 1023, 2047, 4095, 8191, 8191, 32767, 65535, 8191, 139263, 524287, 1048575], fun vs i => match i with
    | 2 => { c := { n := 1 } }
    | 4 => { b := some false }
    | 8 => { c := { n := 1 } }
    | 10 => { b := some false }
    | 15 => { c := { n := 1 } }
    | 19 => { b := some true }
    | _ => {}, by kernel_rfl, rfl, by kernel_rfl, by kernel_rfl, by kernel_rfl, by decide, fun vals => ?_⟩
   refine ⟨fun _ => ⟨rfl, (show 1 < 4 by decide)⟩, ?_⟩
   refine ⟨fun _ => e1, ?_⟩
   refine ⟨fun _ => ⟨rfl, (show 1 < 4 by decide)⟩, ?_⟩
   refine ⟨fun _ => e2, ?_⟩
   refine ⟨fun _ => ⟨rfl, (show 1 < 4 by decide)⟩, ?_⟩
   refine ⟨fun _ => e3, ?_⟩
   intro _
   have h := of_decide_eq_true e3
   have hq : (Lv.mk b p0 p1 p2 p3).p 1 = p1 := rfl
   exact ⟨_, rfl, Told.val (by rw [hno 1 (by decide) (by rw [hq]; omega)])⟩
  | false =>
   refine .inl ⟨21, [0, 0, 3, 7, 15, 31, 63, 63, 255, 511, 1023, 2047, 4095, 8191, 8191, 32767, 65535, 8191, 139263, 524287, 1048575], fun vs i => match i with
    | 2 => { c := { n := 1 } }
    | 4 => { b := some false }
    | 8 => { c := { n := 1 } }
    | 10 => { b := some false }
    | 15 => { c := { n := 1 } }
    | 19 => { b := some false }
    | _ => {}, by kernel_rfl, rfl, by kernel_rfl, by kernel_rfl, by kernel_rfl, by decide, fun vals => ?_⟩
   refine ⟨fun _ => ⟨rfl, (show 1 < 4 by decide)⟩, ?_⟩
   refine ⟨fun _ => e1, ?_⟩
   refine ⟨fun _ => ⟨rfl, (show 1 < 4 by decide)⟩, ?_⟩
   refine ⟨fun _ => e2, ?_⟩
   refine ⟨fun _ => ⟨rfl, (show 1 < 4 by decide)⟩, ?_⟩
   refine ⟨fun _ => e3, ?_⟩
   intro _
   have h1' := of_decide_eq_false e1
   have h3' := of_decide_eq_false e3
   have hq : (Lv.mk b p0 p1 p2 p3).p 1 = p1 := rfl
   refine ⟨2, ⟨by decide, fun i hi => ?_⟩, by decide, ?_⟩
   ·by_cases hij : i = 1
    ·subst hij
     rw [hq]
     omega
    ·exact hok i (by omega)
   ·exact zab [(0, .blk 0)] rfl rfl rfl rfl (leB rfl) (rs rfl rfl) (rm rfl rfl) trivial
 | 2, _, hok =>
  obtain ⟨c1, e1⟩ : ∃ c, decide (p2 < -1) = c := ⟨_, rfl⟩
  obtain ⟨c2, e2⟩ : ∃ c, decide (100 < p2) = c := ⟨_, rfl⟩
  obtain ⟨c3, e3⟩ : ∃ c, decide (b < p2) = c := ⟨_, rfl⟩
  refine zah zae [] _ _ _ ?_
  cases c1 with
  | true =>
   refine .inl ⟨21, [0, 0, 3, 7, 15, 31, 63, 63, 255, 511, 1023, 2047, 4095, 8191, 8191, 32767, 65535, 8191, 139263, 524287, 1048575], fun vs i => match i with
    | 2 => { c := { n := 2 } }
    | 4 => { b := some true }
    | _ => {}, by kernel_rfl, rfl, by kernel_rfl, by kernel_rfl, by kernel_rfl, by decide, fun vals => ?_⟩
   refine ⟨fun _ => ⟨rfl, (show 2 < 4 by decide)⟩, ?_⟩
   refine ⟨fun _ => e1, ?_⟩
   intro _
   have h := of_decide_eq_true e1
   have hq : (Lv.mk b p0 p1 p2 p3).p 2 = p2 := rfl
   exact ⟨_, rfl, Told.val (by rw [hno 2 (by decide) (by rw [hq]; omega)])⟩
  | false =>
  cases c2 with
  | true =>
   refine .inl ⟨21, [0, 0, 3, 7, 15, 31, 63, 63, 255, 511, 1023, 2047, 4095, 8191, 8191, 32767, 65535, 8191, 139263, 524287, 1048575], fun vs i => match i with
    | 2 => { c := { n := 2 } }
    | 4 => { b := some false }
    | 8 => { c := { n := 2 } }
    | 10 => { b := some true }
    | _ => {}, by kernel_rfl, rfl, by kernel_rfl, by kernel_rfl, by kernel_rfl, by decide, fun vals => ?_⟩
   refine ⟨fun _ => ⟨rfl, (show 2 < 4 by decide)⟩, ?_⟩
   refine ⟨fun _ => e1, ?_⟩
   refine ⟨fun _ => ⟨rfl, (show 2 < 4 by decide)⟩, ?_⟩
   refine ⟨fun _ => e2, ?_⟩
   intro _
   have h := of_decide_eq_true e2
   have hq : (Lv.mk b p0 p1 p2 p3).p 2 = p2 := rfl
   exact ⟨_, rfl, Told.val (by rw [hno 2 (by decide) (by rw [hq]; omega)])⟩
  | false =>
  cases c3 with
  | true =>
   refine .inl ⟨21, [0, 0, 3, 7, 15, 31, 63, 63, 255, 511, 1023, 2047, 4095, 8191, 8191, 32767, 65535, 8191, 139263, 524287, 1048575], fun vs i => match i with
    | 2 => { c := { n := 2 } }
    | 4 => { b := some false }
    | 8 => { c := { n := 2 } }
    | 10 => { b := some false }
    | 15 => { c := { n := 2 } }
    | 19 => { b := some true }
    | _ => {}, by kernel_rfl, rfl, by kernel_rfl, by kernel_rfl, by kernel_rfl, by decide, fun vals => ?_⟩
   refine ⟨fun _ => ⟨rfl, (show 2 < 4 by decide)⟩, ?_⟩
   refine ⟨fun _ => e1, ?_⟩
   refine ⟨fun _ => ⟨rfl, (show 2 < 4 by decide)⟩, ?_⟩
   refine ⟨fun _ => e2, ?_⟩
   refine ⟨fun _ => ⟨rfl, (show 2 < 4 by decide)⟩, ?_⟩
   refine ⟨fun _ => e3, ?_⟩
   intro _
   have h := of_decide_eq_true e3
   have hq : (Lv.mk b p0 p1 p2 p3).p 2 = p2 := rfl
   exact ⟨_, rfl, Told.val (by rw [hno 2 (by decide) (by rw [hq]; omega)])⟩
  | false =>
   refine .inl ⟨21, [0, 0, 3, 7, 15, 31, 63, 63, 255, 511, 1023, 2047, 4095, 8191, 8191, 32767, 65535, 8191, 139263, 524287, 1048575], fun vs i => match i with
    | 2 => { c := { n := 2 } }
    | 4 => { b := some false }
    | 8 => { c := { n := 2 } }
    | 10 => { b := some false }
    | 15 => { c := { n := 2 } }
    | 19 => { b := some false }
    | _ => {}, by kernel_rfl, rfl, by kernel_rfl, by kernel_rfl, by kernel_rfl, by decide, fun vals => ?_⟩
   refine ⟨fun _ => ⟨rfl, (show 2 < 4 by decide)⟩, ?_⟩
   refine ⟨fun _ => e1, ?_⟩
   refine ⟨fun _ => ⟨rfl, (show 2 < 4 by decide)⟩, ?_⟩
   refine ⟨fun _ => e2, ?_⟩
   refine ⟨fun _ => ⟨rfl, (show 2 < 4 by decide)⟩, ?_⟩
   refine ⟨fun _ => e3, ?_⟩
   intro _
   have h1' := of_decide_eq_false e1
   have h3' := of_decide_eq_false e3
   have hq : (Lv.mk b p0 p1 p2 p3).p 2 = p2 := rfl
   refine ⟨3, ⟨by decide, fun i hi => ?_⟩, by decide, ?_⟩
   ·by_cases hij : i = 2
    ·subst hij
     rw [hq]
     omega
    ·exact hok i (by omega)
   ·exact zab [(0, .blk 0)] rfl rfl rfl rfl (leB rfl) (rs rfl rfl) (rm rfl rfl) trivial
 | 3, _, hok =>
  obtain ⟨c1, e1⟩ : ∃ c, decide (p3 < -1) = c := ⟨_, rfl⟩
  obtain ⟨c2, e2⟩ : ∃ c, decide (100 < p3) = c := ⟨_, rfl⟩
  obtain ⟨c3, e3⟩ : ∃ c, decide (b < p3) = c := ⟨_, rfl⟩
  refine zah zae [] _ _ _ ?_
  cases c1 with
  | true =>
   refine .inl ⟨21, [0, 0, 3, 7, 15, 31, 63, 63, 255, 511, 1023, 2047, 4095, 8191, 8191, 32767, 65535, 8191, 139263, 524287, 1048575], fun vs i => match i with
    | 2 => { c := { n := 3 } }
    | 4 => { b := some true }
    | _ => {}, by kernel_rfl, rfl, by kernel_rfl, by kernel_rfl, by kernel_rfl, by decide, fun vals => ?_⟩
   refine ⟨fun _ => ⟨rfl, (show 3 < 4 by decide)⟩, ?_⟩
   refine ⟨fun _ => e1, ?_⟩
   intro _
   have h := of_decide_eq_true e1
   have hq : (Lv.mk b p0 p1 p2 p3).p 3 = p3 := rfl
   exact ⟨_, rfl, Told.val (by rw [hno 3 (by decide) (by rw [hq]; omega)])⟩
  | false =>
  cases c2 with
  | true =>
   refine .inl ⟨21, [0, 0, 3, 7, 15, 31, 63, 63, 255, 511, 1023, 2047, 4095, 8191, 8191, 32767, 65535, 8191, 139263, 524287, 1048575], fun vs i => match i with
    | 2 => { c := { n := 3 } }
    | 4 => { b := some false }
    | 8 => { c := { n := 3 } }
    | 10 => { b := some true }
    | _ => {}, by kernel_rfl, rfl, by kernel_rfl, by kernel_rfl, by kernel_rfl, by decide, fun vals => ?_⟩
   refine ⟨fun _ => ⟨rfl, (show 3 < 4 by decide)⟩, ?_⟩
   refine ⟨fun _ => e1, ?_⟩
   refine ⟨fun _ => ⟨rfl, (show 3 < 4 by decide)⟩, ?_⟩
   refine ⟨fun _ => e2, ?_⟩
   intro _
   have h := of_decide_eq_true e2
   have hq : (Lv.mk b p0 p1 p2 p3).p 3 = p3 := rfl
   exact ⟨_, rfl, Told.val (by rw [hno 3 (by decide) (by rw [hq]; omega)])⟩
  | false =>
  cases c3 with
  | true =>
   refine .inl ⟨21, [0, 0, 3, 7, 15, 31, 63, 63, 255, 511, 1023, 2047, 4095, 8191, 8191, 32767, 65535, 8191, 139263, 524287, 1048575], fun vs i => match i with
    | 2 => { c := { n := 3 } }
    | 4 => { b := some false }
    | 8 => { c := { n := 3 } }
    | 10 => { b := some false }
    | 15 => { c := { n := 3 } }
    | 19 => { b := some true }
    | _ => {}, by kernel_rfl, rfl, by kernel_rfl, by kernel_rfl, by kernel_rfl, by decide, fun vals => ?_⟩
   refine ⟨fun _ => ⟨rfl, (show 3 < 4 by decide)⟩, ?_⟩
   refine ⟨fun _ => e1, ?_⟩
   refine ⟨fun _ => ⟨rfl, (show 3 < 4 by decide)⟩, ?_⟩
   refine ⟨fun _ => e2, ?_⟩
   refine ⟨fun _ => ⟨rfl, (show 3 < 4 by decide)⟩, ?_⟩
   refine ⟨fun _ => e3, ?_⟩
   intro _
   have h := of_decide_eq_true e3
   have hq : (Lv.mk b p0 p1 p2 p3).p 3 = p3 := rfl
   exact ⟨_, rfl, Told.val (by rw [hno 3 (by decide) (by rw [hq]; omega)])⟩
  | false =>
   refine .inl ⟨21, [0, 0, 3, 7, 15, 31, 63, 63, 255, 511, 1023, 2047, 4095, 8191, 8191, 32767, 65535, 8191, 139263, 524287, 1048575], fun vs i => match i with
    | 2 => { c := { n := 3 } }
    | 4 => { b := some false }
    | 8 => { c := { n := 3 } }
    | 10 => { b := some false }
    | 15 => { c := { n := 3 } }
    | 19 => { b := some false }
    | _ => {}, by kernel_rfl, rfl, by kernel_rfl, by kernel_rfl, by kernel_rfl, by decide, fun vals => ?_⟩
   refine ⟨fun _ => ⟨rfl, (show 3 < 4 by decide)⟩, ?_⟩
   refine ⟨fun _ => e1, ?_⟩
   refine ⟨fun _ => ⟨rfl, (show 3 < 4 by decide)⟩, ?_⟩
   refine ⟨fun _ => e2, ?_⟩
   refine ⟨fun _ => ⟨rfl, (show 3 < 4 by decide)⟩, ?_⟩
   refine ⟨fun _ => e3, ?_⟩
   intro _
   have h1' := of_decide_eq_false e1
   have h3' := of_decide_eq_false e3
   have hq : (Lv.mk b p0 p1 p2 p3).p 3 = p3 := rfl
   refine ⟨4, ⟨by decide, fun i hi => ?_⟩, by decide, ?_⟩
   ·by_cases hij : i = 3
    ·subst hij
     rw [hq]
     omega
    ·exact hok i (by omega)
   ·exact zab [(0, .blk 0)] rfl rfl rfl rfl (leB rfl) (rs rfl rfl) (rm rfl rfl) trivial
end Go.Proofs.YtmkpiekbpakigaaDoor
end
section
set_option linter.unusedVariables false
set_option linter.unusedSimpArgs false
namespace Go.Proofs.YtmkpiekbpakigaaDoor
open Go.RowKit Go.Proofs.Base Go.Proofs.Sym
def widU (l : Lv) : Nat -> Int
 | 0 => 0
 | k + 1 => if 0 <= l.p k then ((k : Int) + 1) else widU l k
theorem zaak (l : Lv) : widU l 4 = l.width := by
 obtain ⟨b, p0, p1, p2, p3⟩ := l
 simp only [widU, Lv.width, Lv.p]
 (repeat' split) <;> omega
set_option maxHeartbeats 2000000 in
theorem znr (l : Lv) : PCall Tryd.prog 134 [l.val] (fun _ => True) (fun r => r = .int .i64 l.width) (fun _ _ => True) := by
 have h4 := zaak l
 have hst : ∀ k b, decide (0 <= l.p k) = b -> widU l (k + 1) = if b = true then ((k : Int) + 1) else widU l k := fun k b hb => by
  rw [widU]
  by_cases h : 0 <= l.p k
  ·rw [if_pos h, if_pos (by rw [<- hb, decide_eq_true h])]
  ·rw [if_neg h, if_neg (by rw [<- hb, decide_eq_false h]; decide)]
 have h0 : widU l 0 = 0 := rfl
 obtain ⟨W, hW⟩ : ∃ W, widU l = W := ⟨_, rfl⟩
 rw [hW] at h4 h0
 simp only [hW] at hst
 rw [<- h4]
 clear hW h4
 obtain ⟨b, p0, p1, p2, p3⟩ := l
 refine zat zae 17 [.tmp 2] Tryd.func134 rfl rfl (by kernel_rfl) rfl _ (leB rfl) Up.true (fun _ => Up.true) ?_
 refine zah zae [] _ _ _ ?_
 refine ⟨⟨Nat, fun j => j <= 4,
  fun j => { s := [(1, .one (.p 0 0)), (3, .one (.v (.int .i64 (W j)))), (4, .one (.v (.int .i64 (j : Int))))], m := [(0, .cells 24 [.v (.int .i64 b), .v (.int .i64 p0), .v (.int .i64 p1), .v (.int .i64 p2), .v (.int .i64 p3)])], k := 1, f := [] },
  fun j => 4 - j, ⟨0, Nat.zero_le _, ?_⟩, ?_⟩⟩
 ·exact zab [(0, .blk 0)] rfl rfl rfl rfl (leB rfl) ⟨⟨_, rfl, rfl⟩, ⟨_, rfl, oneI h0.symm⟩, ⟨_, rfl, rfl⟩, trivial⟩ ⟨⟨_, rfl, rfl⟩, trivial⟩ trivial
 rintro j hj
 refine zaf (fun hlt => ?_) (fun hge => ?_)
 rotate_left
 ·have hge : j = 4 := by
   have h : decide ((j : Int) < 4) = false := hge
   have := of_decide_eq_false h
   omega
  exact ⟨_, rfl, Told.val (by rw [hge])⟩
 have hlt : j < 4 := by
  have h : decide ((j : Int) < 4) = true := hlt
  have := of_decide_eq_true h
  omega
 match j, hlt with
 | 0, _ =>
  refine ⟨{ n := 0 }, ⟨rfl, (show 0 < 4 by decide)⟩, ?_⟩
  refine zaf (fun h => ?_) (fun h => ?_)
  ·exact ⟨1, by decide, by decide, zab [(0, .blk 0)] rfl rfl rfl rfl (leB rfl) ⟨⟨_, rfl, rfl⟩, ⟨_, rfl, oneI (hst 0 _ h).symm⟩, ⟨_, rfl, rfl⟩, trivial⟩ ⟨⟨_, rfl, rfl⟩, trivial⟩ trivial⟩
  ·exact ⟨1, by decide, by decide, zab [(0, .blk 0)] rfl rfl rfl rfl (leB rfl) ⟨⟨_, rfl, rfl⟩, ⟨_, rfl, oneI (hst 0 _ h).symm⟩, ⟨_, rfl, rfl⟩, trivial⟩ ⟨⟨_, rfl, rfl⟩, trivial⟩ trivial⟩
 | 1, _ =>
  refine ⟨{ n := 1 }, ⟨rfl, (show 1 < 4 by decide)⟩, ?_⟩
  refine zaf (fun h => ?_) (fun h => ?_)
  ·exact ⟨2, by decide, by decide, zab [(0, .blk 0)] rfl rfl rfl rfl (leB rfl) ⟨⟨_, rfl, rfl⟩, ⟨_, rfl, oneI (hst 1 _ h).symm⟩, ⟨_, rfl, rfl⟩, trivial⟩ ⟨⟨_, rfl, rfl⟩, trivial⟩ trivial⟩
  ·exact ⟨2, by decide, by decide, zab [(0, .blk 0)] rfl rfl rfl rfl (leB rfl) ⟨⟨_, rfl, rfl⟩, ⟨_, rfl, oneI (hst 1 _ h).symm⟩, ⟨_, rfl, rfl⟩, trivial⟩ ⟨⟨_, rfl, rfl⟩, trivial⟩ trivial⟩
 | 2, _ =>
  refine ⟨{ n := 2 }, ⟨rfl, (show 2 < 4 by decide)⟩, ?_⟩
  refine zaf (fun h => ?_) (fun h => ?_)
  ·exact ⟨3, by decide, by decide, zab [(0, .blk 0)] rfl rfl rfl rfl (leB rfl) ⟨⟨_, rfl, rfl⟩, ⟨_, rfl, oneI (hst 2 _ h).symm⟩, ⟨_, rfl, rfl⟩, trivial⟩ ⟨⟨_, rfl, rfl⟩, trivial⟩ trivial⟩
  ·exact ⟨3, by decide, by decide, zab [(0, .blk 0)] rfl rfl rfl rfl (leB rfl) ⟨⟨_, rfl, rfl⟩, ⟨_, rfl, oneI (hst 2 _ h).symm⟩, ⟨_, rfl, rfl⟩, trivial⟩ ⟨⟨_, rfl, rfl⟩, trivial⟩ trivial⟩
 | 3, _ =>
  refine ⟨{ n := 3 }, ⟨rfl, (show 3 < 4 by decide)⟩, ?_⟩
  refine zaf (fun h => ?_) (fun h => ?_)
  ·exact ⟨4, by decide, by decide, zab [(0, .blk 0)] rfl rfl rfl rfl (leB rfl) ⟨⟨_, rfl, rfl⟩, ⟨_, rfl, oneI (hst 3 _ h).symm⟩, ⟨_, rfl, rfl⟩, trivial⟩ ⟨⟨_, rfl, rfl⟩, trivial⟩ trivial⟩
  ·exact ⟨4, by decide, by decide, zab [(0, .blk 0)] rfl rfl rfl rfl (leB rfl) ⟨⟨_, rfl, rfl⟩, ⟨_, rfl, oneI (hst 3 _ h).symm⟩, ⟨_, rfl, rfl⟩, trivial⟩ ⟨⟨_, rfl, rfl⟩, trivial⟩ trivial⟩
def zmv (k : Int) : Int := if k = 3 then 1 else if k = 4 then -1 else 0
theorem zwx (k : Int) : PCall Tryd.prog 132 [.int .i64 k] (fun _ => True) (fun r => r = .tuple #[.int .i64 (zfp k), .int .i64 (zmv k)]) (fun _ _ => True) := by
 refine zat zae 17 [.tmp 2, .tmp 3] Tryd.func132 rfl rfl (by kernel_rfl) rfl _ (leB rfl) Up.true (fun _ => Up.true) ?_
 have fin : ∀ a l, zfp k = a -> zmv k = l -> Value.tuple #[.int .i64 a, .int .i64 l] = .tuple #[.int .i64 (zfp k), .int .i64 (zmv k)] := fun a l h1 h2 => by rw [h1, h2]
 refine zah zae [] _ _ _ ?_
 refine zaf (fun h3 => ?_) (fun h3 => ?_)
 ·have h3 : decide (k = 3) = true := h3
  have h3 := of_decide_eq_true h3
  exact ⟨_, rfl, ⟨fun _ _ _ _ _ => ⟨fin 0 (1) (by subst h3; rfl) (by subst h3; rfl), trivial⟩⟩⟩
 have h3 : decide (k = 3) = false := h3
 have h3 := of_decide_eq_false h3
 refine zaf (fun h4 => ?_) (fun h4 => ?_)
 ·have h4 : decide (k = 4) = true := h4
  have h4 := of_decide_eq_true h4
  exact ⟨_, rfl, ⟨fun _ _ _ _ _ => ⟨fin 0 (-1) (by subst h4; rfl) (by subst h4; rfl), trivial⟩⟩⟩
 have h4 : decide (k = 4) = false := h4
 have h4 := of_decide_eq_false h4
 have hl : zmv k = 0 := by unfold zmv; rw [if_neg h3, if_neg h4]
 refine zaf (fun h5 => ?_) (fun h5 => ?_)
 ·have h5 : decide (k = 5) = true := h5
  have h5 := of_decide_eq_true h5
  exact ⟨_, rfl, ⟨fun _ _ _ _ _ => ⟨fin 2 0 (by subst h5; rfl) hl, trivial⟩⟩⟩
 have h5 : decide (k = 5) = false := h5
 have h5 := of_decide_eq_false h5
 refine zaf (fun h6 => ?_) (fun h6 => ?_)
 ·have h6 : decide (k = 6) = true := h6
  have h6 := of_decide_eq_true h6
  exact ⟨_, rfl, ⟨fun _ _ _ _ _ => ⟨fin 2 0 (by subst h6; rfl) hl, trivial⟩⟩⟩
 have h6 : decide (k = 6) = false := h6
 have h6 := of_decide_eq_false h6
 refine zaf (fun h7 => ?_) (fun h7 => ?_)
 ·have h7 : decide (k = 7) = true := h7
  have h7 := of_decide_eq_true h7
  exact ⟨_, rfl, ⟨fun _ _ _ _ _ => ⟨fin 2 0 (by subst h7; rfl) hl, trivial⟩⟩⟩
 have h7 : decide (k = 7) = false := h7
 have h7 := of_decide_eq_false h7
 refine zaf (fun h8 => ?_) (fun h8 => ?_)
 ·have h8 : decide (k = 8) = true := h8
  have h8 := of_decide_eq_true h8
  exact ⟨_, rfl, ⟨fun _ _ _ _ _ => ⟨fin 3 0 (by subst h8; rfl) hl, trivial⟩⟩⟩
 have h8 : decide (k = 8) = false := h8
 have h8 := of_decide_eq_false h8
 refine zaf (fun h9 => ?_) (fun h9 => ?_)
 ·have h9 : decide (k = 9) = true := h9
  have h9 := of_decide_eq_true h9
  exact ⟨_, rfl, ⟨fun _ _ _ _ _ => ⟨fin 1 0 (by subst h9; rfl) hl, trivial⟩⟩⟩
 have h9 : decide (k = 9) = false := h9
 have h9 := of_decide_eq_false h9
 exact ⟨_, rfl, ⟨fun _ _ _ _ _ => ⟨fin 0 0 (by unfold zfp; simp [h5, h6, h7, h8, h9]) hl, trivial⟩⟩⟩
def zmj (k a : Int) : Bool := ((decide (k = 6) || decide (k = 7)) && decide (a = 1)) || (decide (k = 8) && decide (a = 2))
theorem ztm {k a : Int} (h0 : 0 <= a) : zmj k a = decide (zbs k a = 1) := by
 unfold zmj zbs za9
 rw [Bool.eq_iff_iff]
 simp only [Bool.or_eq_true, Bool.and_eq_true, decide_eq_true_eq]
 repeat' split
 all_goals omega
theorem zwd (k a : Int) : PCall Tryd.prog 122 [.int .i64 k, .int .i64 a] (fun _ => True) (fun r => r = .bool (zmj k a)) (fun _ _ => True) := by
 refine zat zae 23 [.tmp 4] Tryd.func122 rfl rfl (by kernel_rfl) rfl _ (leB rfl) Up.true (fun _ => Up.true) ?_
 have fin : ∀ b1 b2 b3 b4 b5, decide (k = 6) = b1 -> decide (k = 7) = b2 -> decide (a = 1) = b3 -> decide (k = 8) = b4 -> decide (a = 2) = b5 -> zmj k a = (((b1 || b2) && b3) || (b4 && b5)) := fun b1 b2 b3 b4 b5 h1 h2 h3 h4 h5 => by rw [zmj, h1, h2, h3, h4, h5]
 obtain ⟨c2, e2⟩ : ∃ b, decide (k = 7) = b := ⟨_, rfl⟩
 obtain ⟨c3, e3⟩ : ∃ b, decide (a = 1) = b := ⟨_, rfl⟩
 obtain ⟨c4, e4⟩ : ∃ b, decide (k = 8) = b := ⟨_, rfl⟩
 obtain ⟨c5, e5⟩ : ∃ b, decide (a = 2) = b := ⟨_, rfl⟩
 refine zah zae [] _ _ _ ?_
 refine zaf (fun h1 => ?_) (fun h1 => ?_)
 ·refine zaf (fun h3 => ?_) (fun h3 => ?_)
  ·exact ⟨_, rfl, Told.val (by rw [fin _ _ _ _ _ h1 e2 h3 e4 e5]; cases c2 <;> cases c4 <;> cases c5 <;> rfl)⟩
  ·refine zaf (fun h4 => ?_) (fun h4 => ?_)
   ·exact ⟨_, rfl, Told.val (by rw [fin _ _ _ _ _ h1 e2 h3 h4 rfl]; cases c2 <;> rfl)⟩
   ·exact ⟨_, rfl, Told.val (by rw [fin _ _ _ _ _ h1 e2 h3 h4 e5]; cases c2 <;> cases c5 <;> rfl)⟩
 ·refine zaf (fun h2 => ?_) (fun h2 => ?_)
  ·refine zaf (fun h3 => ?_) (fun h3 => ?_)
   ·exact ⟨_, rfl, Told.val (by rw [fin _ _ _ _ _ h1 h2 h3 e4 e5]; cases c4 <;> cases c5 <;> rfl)⟩
   ·refine zaf (fun h4 => ?_) (fun h4 => ?_)
    ·exact ⟨_, rfl, Told.val (by rw [fin _ _ _ _ _ h1 h2 h3 h4 rfl]; rfl)⟩
    ·exact ⟨_, rfl, Told.val (by rw [fin _ _ _ _ _ h1 h2 h3 h4 e5]; cases c5 <;> rfl)⟩
  ·refine zaf (fun h4 => ?_) (fun h4 => ?_)
   ·exact ⟨_, rfl, Told.val (by rw [fin _ _ _ _ _ h1 h2 e3 h4 rfl]; cases c3 <;> rfl)⟩
   ·exact ⟨_, rfl, Told.val (by rw [fin _ _ _ _ _ h1 h2 e3 h4 e5]; cases c3 <;> cases c5 <;> rfl)⟩
end Go.Proofs.YtmkpiekbpakigaaDoor
end
section
set_option linter.unusedVariables false
set_option linter.unusedSimpArgs false
namespace Go.Proofs.YtmkpiekbpakigaaDoor
open Go.RowKit Go.Proofs.Base Go.Proofs.Sym
theorem zq8 (k n : Int) (s : ByteArray) (ls : List Lv) (len p v d ar lv : Int) (nm wb : Bool) (har : zfp k = ar) (hlv : zmv k = lv) (hnm : (decide (k = 4) || decide (k = 9)) = nm) (hwb : zdf s = wb) :
  zdg k n s ls len p v d = (!(((((decide (k < 1) || decide (9 < k)) || decide (200 < d)) || !decide (len = ar)) || (decide (0 <= lv) && !decide ((ls.length : Int) = lv))) || decide (4 < (ls.length : Int))) && (!ls.any (zbj p) && (!(((nm && !wb) || (!nm && !zgc s)) || decide (n < 0)) && !(((decide (k = 1) && decide (v <= n)) || (decide (k = 9) && decide (31 < n))) || ((!decide (k = 1) && !decide (k = 9)) && !decide (n = 0)))))) := by
 subst har hlv hnm
 unfold zdg zbw zbm
 rw [hwb]
 obtain ⟨e, he⟩ : ∃ e, zgc s = e := ⟨_, rfl⟩
 obtain ⟨y, hy⟩ : ∃ y, ls.any (zbj p) = y := ⟨_, rfl⟩
 obtain ⟨L, hL⟩ : ∃ L, ls.length = L := ⟨_, rfl⟩
 rw [he, hy, hL]
 clear he hy hL hwb
 by_cases hk : 1 <= k /\ k <= 9
 ·have hkk : k = 1 \/ k = 2 \/ k = 3 \/ k = 4 \/ k = 5 \/ k = 6 \/ k = 7 \/ k = 8 \/ k = 9 := by omega
  rw [Bool.eq_iff_iff]
  rcases hkk with rfl | rfl | rfl | rfl | rfl | rfl | rfl | rfl | rfl <;> cases e <;> cases y <;> cases wb <;> simp [zfp, zmv, zge] <;> omega
 ·rw [Bool.eq_iff_iff]
  have h1 : (decide (k < 1) || decide (9 < k)) = true := by simp; omega
  rw [h1]
  simp
  omega
theorem oneB {x y : Bool} (h : x = y) : SV.one (SA.v (.bool x)) = SV.one (SA.v (.bool y)) := by rw [h]
set_option maxHeartbeats 4000000 in
theorem zs6 (p v d : Int) (t : TT) : PCall Tryd.prog 96 [t.val, .int .i64 p, .int .i64 v, .int .i64 d] (fun w => TTIn w t) (fun r => r = .bool (allT p v d t.tm)) (fun _ _ => True) := by
 induction hsz : SizeOf.sizeOf t using Nat.strongRecOn generalizing t v d with
 | _ z ih =>
 obtain ⟨k, n, s, la, lc, ls, aa, ac, us⟩ := t
 subst hsz
 by_cases hal : us.length <= 9223372036854775807 /\ ls.length <= 9223372036854775807
 rotate_left
 ·refine ⟨zh6 Tryd.func96 (by kernel_rfl) (by kernel_rfl), fun _ => Up.true, fun w H hH hp => ?_⟩
  have := hp.node
  have h1 := this.hac
  have h2 := this.ham
  have h3 := this.hlc
  have h4 := this.hlm
  simp only [maxLen] at h2 h4
  omega
 obtain ⟨hal, hll⟩ := hal
 have hspec : allT p v d (TT.mk k n s la lc ls aa ac us).tm = (zdg k n s ls us.length p v d && zcd k p v d 0 (us.map TT.tm)) := by
  rw [zbz, allT, List.length_map]
 have hshape := zwx k
 have hword := zv8 s
 obtain ⟨ar, har⟩ : ∃ x, zfp k = x := ⟨_, rfl⟩
 obtain ⟨lv, hlv⟩ : ∃ x, zmv k = x := ⟨_, rfl⟩
 obtain ⟨nm, hnm⟩ : ∃ x, (decide (k = 4) || decide (k = 9)) = x := ⟨_, rfl⟩
 obtain ⟨wb, hwb⟩ : ∃ x, zdf s = x := ⟨_, rfl⟩
 have hsplit := zq8 k n s ls us.length p v d ar lv nm wb har hlv hnm hwb
 rw [har, hlv] at hshape
 rw [hwb] at hword
 obtain ⟨Z, hZ⟩ : ∃ Z, allT p v d (TT.mk k n s la lc ls aa ac us).tm = Z := ⟨_, rfl⟩
 obtain ⟨D, hD⟩ : ∃ D, zdg k n s ls us.length p v d = D := ⟨_, rfl⟩
 rw [hZ, hD] at hspec
 rw [hD] at hsplit
 rw [hZ]
 clear hZ hD har hlv hwb
 have hno : D = false -> Z = false := fun h => by rw [hspec, h]; rfl
 refine zat zae 169 [.tmp 8] Tryd.func96 rfl rfl (by kernel_rfl) rfl _ (leB rfl) (TTIn.upS _) (fun _ => Up.true) ?_
 refine zah zae [2] _ _ _ ?_
 refine zag hshape (fun _ => rfl) (fun _ _ => trivial) ?_
 rintro r rfl
 refine zak.ent (st' := { s := [(9, .one (.v (.int .i64 ar))), (10, .one (.v (.int .i64 lv))), (1, .one (.v (.int .i64 p))), (2, .one (.v (.int .i64 v))), (3, .one (.v (.int .i64 d))), (4, .one (.p 0 0))], m := [(0, .cells 41 ((TT.mk k n s la lc ls aa ac us).cells.map SA.v))], k := 1, f := [fun w => TTIn w (TT.mk k n s la lc ls aa ac us)] }) (zab [(0, .blk 0)] rfl rfl rfl rfl (leB rfl) (rs rfl rfl) (rm rfl rfl) ⟨⟨TTIn.upS _, fun w h => h.2.1⟩, trivial⟩) ?_
 refine zak.seq (zak.seq (zak.parts ?_))
 refine zbp.step zae 9 (X := Bool) (fun b => b = (decide (k < 1) || decide (9 < k))) (fun b => { s := [(29, .one (.v (.bool b))), (9, .one (.v (.int .i64 ar))), (10, .one (.v (.int .i64 lv))), (1, .one (.v (.int .i64 p))), (2, .one (.v (.int .i64 v))), (3, .one (.v (.int .i64 d))), (4, .one (.p 0 0))], m := [(0, .cells 41 ((TT.mk k n s la lc ls aa ac us).cells.map SA.v))], k := 1, f := [fun w => TTIn w (TT.mk k n s la lc ls aa ac us)] }) ?_ (fun b0 hb0 => ?_)
 ·refine zaf (fun h => ?_) (fun h => ?_)
  ·have h : decide (k < 1) = true := h
   exact ⟨true, by rw [h]; rfl, zab [(0, .blk 0)] rfl rfl rfl rfl (leB rfl) (rs rfl rfl) (rm rfl rfl) ⟨⟨TTIn.upS _, fun w h => h.1⟩, trivial⟩⟩
  ·have h : decide (k < 1) = false := h
   exact ⟨decide (9 < k), by rw [h]; rfl, zab [(0, .blk 0)] rfl rfl rfl rfl (leB rfl) (rs rfl rfl) (rm rfl rfl) ⟨⟨TTIn.upS _, fun w h => h.1⟩, trivial⟩⟩
 refine zbp.step zae 4 (X := Bool) (fun b => b = ((decide (k < 1) || decide (9 < k)) || decide (200 < d))) (fun b => { s := [(33, .one (.v (.bool b))), (9, .one (.v (.int .i64 ar))), (10, .one (.v (.int .i64 lv))), (1, .one (.v (.int .i64 p))), (2, .one (.v (.int .i64 v))), (3, .one (.v (.int .i64 d))), (4, .one (.p 0 0))], m := [(0, .cells 41 ((TT.mk k n s la lc ls aa ac us).cells.map SA.v))], k := 1, f := [fun w => TTIn w (TT.mk k n s la lc ls aa ac us)] }) ?_ (fun b1 hb1 => ?_)
 ·refine zaf (fun h => ?_) (fun h => ?_)
  ·exact ⟨true, by rw [<- hb0, h]; rfl, zab [(0, .blk 0)] rfl rfl rfl rfl (leB rfl) (rs rfl rfl) (rm rfl rfl) ⟨⟨TTIn.upS _, fun w h => h.1⟩, trivial⟩⟩
  ·exact ⟨decide (200 < d), by rw [<- hb0, h]; rfl, zab [(0, .blk 0)] rfl rfl rfl rfl (leB rfl) (rs rfl rfl) (rm rfl rfl) ⟨⟨TTIn.upS _, fun w h => h.1⟩, trivial⟩⟩
 refine zbp.step zae 7 (X := Bool) (fun b => b = (((decide (k < 1) || decide (9 < k)) || decide (200 < d)) || !decide ((us.length : Int) = ar))) (fun b => { s := [(40, .one (.v (.bool b))), (9, .one (.v (.int .i64 ar))), (10, .one (.v (.int .i64 lv))), (1, .one (.v (.int .i64 p))), (2, .one (.v (.int .i64 v))), (3, .one (.v (.int .i64 d))), (4, .one (.p 0 0))], m := [(0, .cells 41 ((TT.mk k n s la lc ls aa ac us).cells.map SA.v))], k := 1, f := [fun w => TTIn w (TT.mk k n s la lc ls aa ac us)] }) ?_ (fun b2 hb2 => ?_)
 ·refine zaf (fun h => ?_) (fun h => ?_)
  ·exact ⟨true, by rw [<- hb1, h]; rfl, zab [(0, .blk 0)] rfl rfl rfl rfl (leB rfl) (rs rfl rfl) (rm rfl rfl) ⟨⟨TTIn.upS _, fun w h => h.1⟩, trivial⟩⟩
  ·exact ⟨!decide ((us.length : Int) = ar), by rw [<- hb1, h]; rfl, zab [(0, .blk 0)] rfl rfl rfl rfl (leB rfl) (rs rfl rfl) (rm rfl rfl) ⟨⟨TTIn.upS _, fun w h => h.1⟩, trivial⟩⟩
 refine zbp.step zae 11 (X := Bool) (fun b => b = ((((decide (k < 1) || decide (9 < k)) || decide (200 < d)) || !decide ((us.length : Int) = ar)) || (decide (0 <= lv) && !decide ((ls.length : Int) = lv)))) (fun b => { s := [(51, .one (.v (.bool b))), (9, .one (.v (.int .i64 ar))), (10, .one (.v (.int .i64 lv))), (1, .one (.v (.int .i64 p))), (2, .one (.v (.int .i64 v))), (3, .one (.v (.int .i64 d))), (4, .one (.p 0 0))], m := [(0, .cells 41 ((TT.mk k n s la lc ls aa ac us).cells.map SA.v))], k := 1, f := [fun w => TTIn w (TT.mk k n s la lc ls aa ac us)] }) ?_ (fun b3 hb3 => ?_)
 ·refine zaf (fun h => ?_) (fun h => ?_)
  ·exact ⟨true, by rw [<- hb2, h]; rfl, zab [(0, .blk 0)] rfl rfl rfl rfl (leB rfl) (rs rfl rfl) (rm rfl rfl) ⟨⟨TTIn.upS _, fun w h => h.1⟩, trivial⟩⟩
  ·refine zaf (fun h2 => ?_) (fun h2 => ?_)
   ·have h2 : decide (0 <= lv) = true := h2
    exact ⟨!decide ((ls.length : Int) = lv), by rw [<- hb2, h, h2]; rfl, zab [(0, .blk 0)] rfl rfl rfl rfl (leB rfl) (rs rfl rfl) (rm rfl rfl) ⟨⟨TTIn.upS _, fun w h => h.1⟩, trivial⟩⟩
   ·have h2 : decide (0 <= lv) = false := h2
    exact ⟨false, by rw [<- hb2, h, h2]; rfl, zab [(0, .blk 0)] rfl rfl rfl rfl (leB rfl) (rs rfl rfl) (rm rfl rfl) ⟨⟨TTIn.upS _, fun w h => h.1⟩, trivial⟩⟩
 refine zbp.step zae 5 (X := Bool) (fun b => b = (((((decide (k < 1) || decide (9 < k)) || decide (200 < d)) || !decide ((us.length : Int) = ar)) || (decide (0 <= lv) && !decide ((ls.length : Int) = lv))) || decide (4 < (ls.length : Int)))) (fun b => { s := [(56, .one (.v (.bool b))), (9, .one (.v (.int .i64 ar))), (10, .one (.v (.int .i64 lv))), (1, .one (.v (.int .i64 p))), (2, .one (.v (.int .i64 v))), (3, .one (.v (.int .i64 d))), (4, .one (.p 0 0))], m := [(0, .cells 41 ((TT.mk k n s la lc ls aa ac us).cells.map SA.v))], k := 1, f := [fun w => TTIn w (TT.mk k n s la lc ls aa ac us)] }) ?_ (fun b4 hb4 => ?_)
 ·refine zaf (fun h => ?_) (fun h => ?_)
  ·exact ⟨true, by rw [<- hb3, h]; rfl, zab [(0, .blk 0)] rfl rfl rfl rfl (leB rfl) (rs rfl rfl) (rm rfl rfl) ⟨⟨TTIn.upS _, fun w h => h.1⟩, trivial⟩⟩
  ·exact ⟨decide (4 < (ls.length : Int)), by rw [<- hb3, h]; rfl, zab [(0, .blk 0)] rfl rfl rfl rfl (leB rfl) (rs rfl rfl) (rm rfl rfl) ⟨⟨TTIn.upS _, fun w h => h.1⟩, trivial⟩⟩
 refine zbp.done ?_
 rw [<- hb4] at hsplit
 refine zah zae [4] _ _ _ ?_
 refine zaf (fun h => ?_) (fun h => ?_)
 ·have h : b4 = true := h
  rw [h] at hsplit
  exact ⟨_, rfl, Told.val (by rw [hno hsplit])⟩
 have h : b4 = false := h
 rw [h] at hsplit
 clear h hb0 hb1 hb2 hb3 hb4 b0 b1 b2 b3
 refine zak.ent (st' := { s := [(1, .one (.v (.int .i64 p))), (2, .one (.v (.int .i64 v))), (3, .one (.v (.int .i64 d))), (4, .one (.p 0 0))], m := [(0, .cells 41 ((TT.mk k n s la lc ls aa ac us).cells.map SA.v))], k := 1, f := [fun w => TTIn w (TT.mk k n s la lc ls aa ac us)] }) (zab [(0, .blk 0)] rfl rfl rfl rfl (leB rfl) (rs rfl rfl) (rm rfl rfl) ⟨⟨TTIn.upS _, fun w h => h.1⟩, trivial⟩) ?_
 refine zak.cutX (X := Unit) (fun _ => ls.any (zbj p) = false) (fun _ => { s := [(1, .one (.v (.int .i64 p))), (2, .one (.v (.int .i64 v))), (3, .one (.v (.int .i64 d))), (4, .one (.p 0 0))], m := [(0, .cells 41 ((TT.mk k n s la lc ls aa ac us).cells.map SA.v))], k := 1, f := [fun w => TTIn w (TT.mk k n s la lc ls aa ac us)] }) ?_ (fun _ hany => ?_)
 ·refine zah zae [] _ _ _ ?_
  refine ⟨⟨Nat, fun j => j <= ls.length /\ (ls.take j).any (zbj p) = false, fun j => { s := [(11, .one (.v (.int .i64 (j : Int)))), (1, .one (.v (.int .i64 p))), (2, .one (.v (.int .i64 v))), (3, .one (.v (.int .i64 d))), (4, .one (.p 0 0))], m := [(0, .cells 41 ((TT.mk k n s la lc ls aa ac us).cells.map SA.v))], k := 1, f := [fun w => TTIn w (TT.mk k n s la lc ls aa ac us)] }, fun j => ls.length - j, ⟨0, ⟨Nat.zero_le _, rfl⟩, zab [(0, .blk 0)] rfl rfl rfl rfl (leB rfl) (rs rfl rfl) (rm rfl rfl) ⟨⟨TTIn.upS _, fun w h => h.1⟩, trivial⟩⟩, ?_⟩⟩
  rintro j ⟨hj, hA⟩
  refine zaf (fun hlt => ?_) (fun hge => ?_)
  rotate_left
  ·have hge : ls.length <= j := by
    have h : decide ((j : Int) < (ls.length : Int)) = false := hge
    have := of_decide_eq_false h
    omega
   rw [List.take_of_length_le hge] at hA
   exact ⟨(), hA, zab [(0, .blk 0)] rfl rfl rfl rfl (leB rfl) (rs rfl rfl) (rm rfl rfl) ⟨⟨TTIn.upS _, fun w h => h.1⟩, trivial⟩⟩
  have hlt : j < ls.length := by
   have h : decide ((j : Int) < (ls.length : Int)) = true := hlt
   have := of_decide_eq_true h
   omega
  obtain ⟨l, hl⟩ : ∃ l, ls[j]? = some l := ⟨_, List.getElem?_eq_getElem hlt⟩
  have hr := zpd l
  have hw := znr l
  have hwr : zbj p l = (!l.right || decide (p < l.width)) := rfl
  have hstep : (ls.take (j + 1)).any (zbj p) = zbj p l := by
   rw [List.take_add_one, hl, List.any_append, hA]
   simp
  have hbad : zbj p l = true -> Z = false := fun h => hno (by
   rw [hsplit, show ls.any (zbj p) = true from List.any_eq_true.2 ⟨l, List.mem_of_getElem? hl, h⟩]
   rfl)
  obtain ⟨r1, hr1⟩ : ∃ r, l.right = r := ⟨_, rfl⟩
  obtain ⟨w1, hw1⟩ : ∃ r, l.width = r := ⟨_, rfl⟩
  rw [hr1] at hr hwr
  rw [hw1] at hw hwr
  refine ⟨{ n := j }, ⟨rfl, hlt, fun w h => ?_⟩, ?_⟩
  ·obtain ⟨a, ha, _⟩ := zb1 h.1.node.hls hl
   rw [ha]; rfl
  refine ⟨{ cs := zba l }, ⟨zci l, rfl, fun w h => ?_⟩, ?_⟩
  ·obtain ⟨a, ha, hc⟩ := zb1 h.1.node.hls hl
   exact ⟨_, by rw [ha]; rfl, hc⟩
  refine zag hr (fun _ => rfl) (fun _ _ => trivial) ?_
  rintro r rfl
  cases r1 with
  | false => exact ⟨_, rfl, Told.val (by rw [hbad hwr])⟩
  | true =>
  refine ⟨{ n := j }, ⟨rfl, hlt, fun w h => ?_⟩, ?_⟩
  ·obtain ⟨a, ha, _⟩ := zb1 h.2.1.node.hls hl
   rw [ha]; rfl
  refine ⟨{ cs := zba l }, ⟨zci l, rfl, fun w h => ?_⟩, ?_⟩
  ·obtain ⟨a, ha, hc⟩ := zb1 h.2.1.node.hls hl
   exact ⟨_, by rw [ha]; rfl, hc⟩
  refine zag hw (fun _ => rfl) (fun _ _ => trivial) ?_
  rintro r rfl
  refine zaf (fun h => ?_) (fun h => ?_)
  ·have h : decide (p < w1) = true := h
   rw [h] at hwr
   exact ⟨_, rfl, Told.val (by rw [hbad hwr])⟩
  ·have h : decide (p < w1) = false := h
   rw [h] at hwr
   exact ⟨j + 1, ⟨hlt, hstep.trans hwr⟩, by simp only; omega, zab [(0, .blk 0)] rfl rfl rfl rfl (leB rfl) ⟨⟨_, rfl, oneI (zbn (by omega) (by omega))⟩, ⟨_, rfl, rfl⟩, ⟨_, rfl, rfl⟩, ⟨_, rfl, rfl⟩, ⟨_, rfl, rfl⟩, trivial⟩ ⟨⟨_, rfl, rfl⟩, trivial⟩ ⟨⟨TTIn.upS _, fun w h => h.2.2.1⟩, trivial⟩⟩
 rw [hany] at hsplit
 refine zak.cut ({ s := [(12, .one (.v (.bool nm))), (1, .one (.v (.int .i64 p))), (2, .one (.v (.int .i64 v))), (3, .one (.v (.int .i64 d))), (4, .one (.p 0 0))], m := [(0, .cells 41 ((TT.mk k n s la lc ls aa ac us).cells.map SA.v))], k := 1, f := [fun w => TTIn w (TT.mk k n s la lc ls aa ac us)] }) ?_ ?_
 ·refine zah zae [] _ _ _ ?_
  refine zaf (fun h => ?_) (fun h => ?_)
  ·have h : decide (k = 4) = true := h
   exact zab [(0, .blk 0)] rfl rfl rfl rfl (leB rfl) ⟨⟨_, rfl, oneB (by rw [<- hnm, h]; rfl)⟩, ⟨_, rfl, rfl⟩, ⟨_, rfl, rfl⟩, ⟨_, rfl, rfl⟩, ⟨_, rfl, rfl⟩, trivial⟩ ⟨⟨_, rfl, rfl⟩, trivial⟩ ⟨⟨TTIn.upS _, fun w h => h.1⟩, trivial⟩
  ·have h : decide (k = 4) = false := h
   exact zab [(0, .blk 0)] rfl rfl rfl rfl (leB rfl) ⟨⟨_, rfl, oneB (by rw [<- hnm, h]; rfl)⟩, ⟨_, rfl, rfl⟩, ⟨_, rfl, rfl⟩, ⟨_, rfl, rfl⟩, ⟨_, rfl, rfl⟩, trivial⟩ ⟨⟨_, rfl, rfl⟩, trivial⟩ ⟨⟨TTIn.upS _, fun w h => h.1⟩, trivial⟩
 refine zak.seq (zak.seq (zak.parts ?_))
 refine zbp.step zae 8 (X := Bool) (fun b => b = (nm && !wb)) (fun b => { s := [(96, .one (.v (.bool b))), (12, .one (.v (.bool nm))), (1, .one (.v (.int .i64 p))), (2, .one (.v (.int .i64 v))), (3, .one (.v (.int .i64 d))), (4, .one (.p 0 0))], m := [(0, .cells 41 ((TT.mk k n s la lc ls aa ac us).cells.map SA.v))], k := 1, f := [fun w => TTIn w (TT.mk k n s la lc ls aa ac us)] }) ?_ (fun b0 hb0 => ?_)
 ·refine zaf (fun h => ?_) (fun h => ?_)
  ·have h : nm = true := h
   refine zag hword (fun _ => rfl) (fun _ _ => trivial) ?_
   rintro r rfl
   exact ⟨!wb, by rw [h]; rfl, zab [(0, .blk 0)] rfl rfl rfl rfl (leB rfl) (rs rfl rfl) (rm rfl rfl) ⟨⟨TTIn.upS _, fun w h => h.2.1⟩, trivial⟩⟩
  ·have h : nm = false := h
   exact ⟨false, by rw [h]; rfl, zab [(0, .blk 0)] rfl rfl rfl rfl (leB rfl) (rs rfl rfl) (rm rfl rfl) ⟨⟨TTIn.upS _, fun w h => h.1⟩, trivial⟩⟩
 refine zbp.step zae 9 (X := Bool) (fun b => b = ((nm && !wb) || (!nm && !zgc s))) (fun b => { s := [(105, .one (.v (.bool b))), (12, .one (.v (.bool nm))), (1, .one (.v (.int .i64 p))), (2, .one (.v (.int .i64 v))), (3, .one (.v (.int .i64 d))), (4, .one (.p 0 0))], m := [(0, .cells 41 ((TT.mk k n s la lc ls aa ac us).cells.map SA.v))], k := 1, f := [fun w => TTIn w (TT.mk k n s la lc ls aa ac us)] }) ?_ (fun b1 hb1 => ?_)
 ·refine zaf (fun h => ?_) (fun h => ?_)
  ·exact ⟨true, by rw [<- hb0, h]; rfl, zab [(0, .blk 0)] rfl rfl rfl rfl (leB rfl) (rs rfl rfl) (rm rfl rfl) ⟨⟨TTIn.upS _, fun w h => h.1⟩, trivial⟩⟩
  ·refine zaf (fun h2 => ?_) (fun h2 => ?_)
   ·have h2 : (!nm) = true := h2
    exact ⟨!zgc s, by rw [<- hb0, h, h2]; rfl, zab [(0, .blk 0)] rfl rfl rfl rfl (leB rfl) (rs rfl rfl) (rm rfl rfl) ⟨⟨TTIn.upS _, fun w h => h.1⟩, trivial⟩⟩
   ·have h2 : (!nm) = false := h2
    exact ⟨false, by rw [<- hb0, h, h2]; rfl, zab [(0, .blk 0)] rfl rfl rfl rfl (leB rfl) (rs rfl rfl) (rm rfl rfl) ⟨⟨TTIn.upS _, fun w h => h.1⟩, trivial⟩⟩
 refine zbp.step zae 4 (X := Bool) (fun b => b = (((nm && !wb) || (!nm && !zgc s)) || decide (n < 0))) (fun b => { s := [(109, .one (.v (.bool b))), (12, .one (.v (.bool nm))), (1, .one (.v (.int .i64 p))), (2, .one (.v (.int .i64 v))), (3, .one (.v (.int .i64 d))), (4, .one (.p 0 0))], m := [(0, .cells 41 ((TT.mk k n s la lc ls aa ac us).cells.map SA.v))], k := 1, f := [fun w => TTIn w (TT.mk k n s la lc ls aa ac us)] }) ?_ (fun b2 hb2 => ?_)
 ·refine zaf (fun h => ?_) (fun h => ?_)
  ·exact ⟨true, by rw [<- hb1, h]; rfl, zab [(0, .blk 0)] rfl rfl rfl rfl (leB rfl) (rs rfl rfl) (rm rfl rfl) ⟨⟨TTIn.upS _, fun w h => h.1⟩, trivial⟩⟩
  ·exact ⟨decide (n < 0), by rw [<- hb1, h]; rfl, zab [(0, .blk 0)] rfl rfl rfl rfl (leB rfl) (rs rfl rfl) (rm rfl rfl) ⟨⟨TTIn.upS _, fun w h => h.1⟩, trivial⟩⟩
 refine zbp.done ?_
 rw [<- hb2] at hsplit
 refine zah zae [12] _ _ _ ?_
 refine zaf (fun h => ?_) (fun h => ?_)
 ·have h : b2 = true := h
  rw [h] at hsplit
  exact ⟨_, rfl, Told.val (by rw [hno hsplit])⟩
 have h : b2 = false := h
 rw [h] at hsplit
 clear h hb0 hb1 hb2 b0 b1
 refine zak.ent (st' := { s := [(1, .one (.v (.int .i64 p))), (2, .one (.v (.int .i64 v))), (3, .one (.v (.int .i64 d))), (4, .one (.p 0 0))], m := [(0, .cells 41 ((TT.mk k n s la lc ls aa ac us).cells.map SA.v))], k := 1, f := [fun w => TTIn w (TT.mk k n s la lc ls aa ac us)] }) (zab [(0, .blk 0)] rfl rfl rfl rfl (leB rfl) (rs rfl rfl) (rm rfl rfl) ⟨⟨TTIn.upS _, fun w h => h.1⟩, trivial⟩) ?_
 refine zak.seq (zak.seq (zak.parts ?_))
 refine zbp.step zae 10 (X := Bool) (fun b => b = (decide (k = 1) && decide (v <= n))) (fun b => { s := [(119, .one (.v (.bool b))), (1, .one (.v (.int .i64 p))), (2, .one (.v (.int .i64 v))), (3, .one (.v (.int .i64 d))), (4, .one (.p 0 0))], m := [(0, .cells 41 ((TT.mk k n s la lc ls aa ac us).cells.map SA.v))], k := 1, f := [fun w => TTIn w (TT.mk k n s la lc ls aa ac us)] }) ?_ (fun b0 hb0 => ?_)
 ·refine zaf (fun h => ?_) (fun h => ?_)
  ·have h : decide (k = 1) = true := h
   exact ⟨decide (v <= n), by rw [h]; rfl, zab [(0, .blk 0)] rfl rfl rfl rfl (leB rfl) (rs rfl rfl) (rm rfl rfl) ⟨⟨TTIn.upS _, fun w h => h.1⟩, trivial⟩⟩
  ·have h : decide (k = 1) = false := h
   exact ⟨false, by rw [h]; rfl, zab [(0, .blk 0)] rfl rfl rfl rfl (leB rfl) (rs rfl rfl) (rm rfl rfl) ⟨⟨TTIn.upS _, fun w h => h.1⟩, trivial⟩⟩
 refine zbp.step zae 10 (X := Bool) (fun b => b = ((decide (k = 1) && decide (v <= n)) || (decide (k = 9) && decide (31 < n)))) (fun b => { s := [(129, .one (.v (.bool b))), (1, .one (.v (.int .i64 p))), (2, .one (.v (.int .i64 v))), (3, .one (.v (.int .i64 d))), (4, .one (.p 0 0))], m := [(0, .cells 41 ((TT.mk k n s la lc ls aa ac us).cells.map SA.v))], k := 1, f := [fun w => TTIn w (TT.mk k n s la lc ls aa ac us)] }) ?_ (fun b1 hb1 => ?_)
 ·refine zaf (fun h => ?_) (fun h => ?_)
  ·exact ⟨true, by rw [<- hb0, h]; rfl, zab [(0, .blk 0)] rfl rfl rfl rfl (leB rfl) (rs rfl rfl) (rm rfl rfl) ⟨⟨TTIn.upS _, fun w h => h.1⟩, trivial⟩⟩
  ·refine zaf (fun h2 => ?_) (fun h2 => ?_)
   ·have h2 : decide (k = 9) = true := h2
    exact ⟨decide (31 < n), by rw [<- hb0, h, h2]; rfl, zab [(0, .blk 0)] rfl rfl rfl rfl (leB rfl) (rs rfl rfl) (rm rfl rfl) ⟨⟨TTIn.upS _, fun w h => h.1⟩, trivial⟩⟩
   ·have h2 : decide (k = 9) = false := h2
    exact ⟨false, by rw [<- hb0, h, h2]; rfl, zab [(0, .blk 0)] rfl rfl rfl rfl (leB rfl) (rs rfl rfl) (rm rfl rfl) ⟨⟨TTIn.upS _, fun w h => h.1⟩, trivial⟩⟩
 refine zbp.step zae 14 (X := Bool) (fun b => b = (((decide (k = 1) && decide (v <= n)) || (decide (k = 9) && decide (31 < n))) || ((!decide (k = 1) && !decide (k = 9)) && !decide (n = 0)))) (fun b => { s := [(143, .one (.v (.bool b))), (1, .one (.v (.int .i64 p))), (2, .one (.v (.int .i64 v))), (3, .one (.v (.int .i64 d))), (4, .one (.p 0 0))], m := [(0, .cells 41 ((TT.mk k n s la lc ls aa ac us).cells.map SA.v))], k := 1, f := [fun w => TTIn w (TT.mk k n s la lc ls aa ac us)] }) ?_ (fun b2 hb2 => ?_)
 ·refine zaf (fun h => ?_) (fun h => ?_)
  ·exact ⟨true, by rw [<- hb1, h]; rfl, zab [(0, .blk 0)] rfl rfl rfl rfl (leB rfl) (rs rfl rfl) (rm rfl rfl) ⟨⟨TTIn.upS _, fun w h => h.1⟩, trivial⟩⟩
  ·refine zaf (fun h2 => ?_) (fun h2 => ?_)
   ·have h2 : (!decide (k = 1)) = true := h2
    refine zaf (fun h3 => ?_) (fun h3 => ?_)
    ·have h3 : (!decide (k = 9)) = true := h3
     exact ⟨!decide (n = 0), by rw [<- hb1, h, h2, h3]; rfl, zab [(0, .blk 0)] rfl rfl rfl rfl (leB rfl) (rs rfl rfl) (rm rfl rfl) ⟨⟨TTIn.upS _, fun w h => h.1⟩, trivial⟩⟩
    ·have h3 : (!decide (k = 9)) = false := h3
     exact ⟨false, by rw [<- hb1, h, h2, h3]; rfl, zab [(0, .blk 0)] rfl rfl rfl rfl (leB rfl) (rs rfl rfl) (rm rfl rfl) ⟨⟨TTIn.upS _, fun w h => h.1⟩, trivial⟩⟩
   ·have h2 : (!decide (k = 1)) = false := h2
    exact ⟨false, by rw [<- hb1, h, h2]; rfl, zab [(0, .blk 0)] rfl rfl rfl rfl (leB rfl) (rs rfl rfl) (rm rfl rfl) ⟨⟨TTIn.upS _, fun w h => h.1⟩, trivial⟩⟩
 refine zbp.done ?_
 rw [<- hb2] at hsplit
 refine zah zae [14] _ _ _ ?_
 refine zaf (fun h => ?_) (fun h => ?_)
 ·have h : b2 = true := h
  rw [h] at hsplit
  exact ⟨_, rfl, Told.val (by rw [hno hsplit])⟩
 have h : b2 = false := h
 rw [h] at hsplit
 clear h hb0 hb1 hb2 b0 b1
 have hZ2 : zcd k p v d 0 (us.map TT.tm) = Z := by rw [hspec, hsplit]; rfl
 refine zak.ent (st' := { s := [(1, .one (.v (.int .i64 p))), (2, .one (.v (.int .i64 v))), (3, .one (.v (.int .i64 d))), (4, .one (.p 0 0))], m := [(0, .cells 41 ((TT.mk k n s la lc ls aa ac us).cells.map SA.v))], k := 1, f := [fun w => TTIn w (TT.mk k n s la lc ls aa ac us)] }) (zab [(0, .blk 0)] rfl rfl rfl rfl (leB rfl) (rs rfl rfl) (rm rfl rfl) ⟨⟨TTIn.upS _, fun w h => h.1⟩, trivial⟩) ?_
 refine zah zae [] _ _ _ ?_
 refine ⟨⟨Nat, fun j => j <= us.length /\ zcd k p v d j ((us.map TT.tm).drop j) = Z, fun j => { s := [(13, .one (.v (.int .i64 (j : Int)))), (1, .one (.v (.int .i64 p))), (2, .one (.v (.int .i64 v))), (3, .one (.v (.int .i64 d))), (4, .one (.p 0 0))], m := [(0, .cells 41 ((TT.mk k n s la lc ls aa ac us).cells.map SA.v))], k := 1, f := [fun w => TTIn w (TT.mk k n s la lc ls aa ac us)] }, fun j => us.length - j, ⟨0, ⟨Nat.zero_le _, hZ2⟩, zab [(0, .blk 0)] rfl rfl rfl rfl (leB rfl) (rs rfl rfl) (rm rfl rfl) ⟨⟨TTIn.upS _, fun w h => h.1⟩, trivial⟩⟩, ?_⟩⟩
 rintro j ⟨hj, hA⟩
 refine zaf (fun hlt => ?_) (fun hge => ?_)
 rotate_left
 ·have hge : us.length <= j := by
   have h : decide ((j : Int) < (us.length : Int)) = false := hge
   have := of_decide_eq_false h
   omega
  exact ⟨_, rfl, Told.val (by rw [<- hA, List.drop_eq_nil_of_le (by simpa using hge)]; simp [zcd])⟩
 have hlt : j < us.length := by
  have h : decide ((j : Int) < (us.length : Int)) = true := hlt
  have := of_decide_eq_true h
  omega
 obtain ⟨u, hu⟩ : ∃ u, us[j]? = some u := ⟨_, List.getElem?_eq_getElem hlt⟩
 have hmem := List.mem_of_getElem? hu
 have hrec := ih _ (zeu hmem) (IntKind.i64.wrap (v + zbs k j)) (IntKind.i64.wrap (d + zbs k j)) u rfl
 have hstep : Z = (allT p (IntKind.i64.wrap (v + zbs k j)) (IntKind.i64.wrap (d + zbs k j)) u.tm && zcd k p v d (j + 1) ((us.map TT.tm).drop (j + 1))) := by
  rw [<- hA, List.drop_eq_getElem_cons (by simpa using hlt), zcd]
  simp [(List.getElem?_eq_some_iff.1 hu).2]
 obtain ⟨uk, un, uname, ula, ulc, uls, uaa, uac, uus⟩ := u
 obtain ⟨b, hb⟩ : ∃ b, allT p (IntKind.i64.wrap (v + zbs k j)) (IntKind.i64.wrap (d + zbs k j)) (TT.mk uk un uname ula ulc uls uaa uac uus).tm = b := ⟨_, rfl⟩
 rw [hb] at hrec hstep
 have hbi := zwd k j
 have hdi : zbs k j = 0 \/ zbs k j = 1 := by unfold zbs; split <;> simp
 rw [ztm (Int.natCast_nonneg j)] at hbi
 clear hb
 obtain ⟨dI, hdI⟩ : ∃ x, zbs k j = x := ⟨_, rfl⟩
 rw [hdI] at hbi hdi hrec
 rcases hdi with rfl | rfl
 ·rw [show decide ((0 : Int) = 1) = false from rfl] at hbi
  refine zag hbi (fun _ => rfl) (fun _ _ => trivial) ?_
  rintro r rfl
  refine ⟨{ n := j }, ⟨rfl, hlt, fun w h => ?_⟩, ?_⟩
  ·obtain ⟨⟨a, ha, _⟩, _⟩ := h.2.1.arg hu
   rw [ha]
   rfl
  refine ⟨{ cs := (TT.mk uk un uname ula ulc uls uaa uac uus).cells }, ⟨TT.cells_one (TT.mk uk un uname ula ulc uls uaa uac uus), rfl, fun w h => ?_⟩, ?_⟩
  ·obtain ⟨⟨a, ha, hc⟩, _⟩ := h.2.1.arg hu
   exact ⟨_, by rw [ha]; rfl, hc⟩
  refine zag hrec (fun _ => rfl) (fun w h => (h.2.1.arg hu).2) ?_
  rintro r rfl
  cases b with
  | false => exact ⟨_, rfl, Told.val (by rw [hstep]; rfl)⟩
  | true =>
   refine ⟨j + 1, ⟨hlt, by rw [hstep]; rfl⟩, by simp only; omega, ?_⟩
   exact zab [(0, .blk 0)] rfl rfl rfl rfl (leB rfl) ⟨⟨_, rfl, oneI (zbn (by omega) (by omega))⟩, ⟨_, rfl, rfl⟩, ⟨_, rfl, rfl⟩, ⟨_, rfl, rfl⟩, ⟨_, rfl, rfl⟩, trivial⟩ ⟨⟨_, rfl, rfl⟩, trivial⟩ ⟨⟨TTIn.upS _, fun w h => h.2.2.1⟩, trivial⟩
 ·rw [show decide ((1 : Int) = 1) = true from rfl] at hbi
  refine zag hbi (fun _ => rfl) (fun _ _ => trivial) ?_
  rintro r rfl
  refine ⟨{ n := j }, ⟨rfl, hlt, fun w h => ?_⟩, ?_⟩
  ·obtain ⟨⟨a, ha, _⟩, _⟩ := h.2.1.arg hu
   rw [ha]
   rfl
  refine ⟨{ cs := (TT.mk uk un uname ula ulc uls uaa uac uus).cells }, ⟨TT.cells_one (TT.mk uk un uname ula ulc uls uaa uac uus), rfl, fun w h => ?_⟩, ?_⟩
  ·obtain ⟨⟨a, ha, hc⟩, _⟩ := h.2.1.arg hu
   exact ⟨_, by rw [ha]; rfl, hc⟩
  refine zag hrec (fun _ => rfl) (fun w h => (h.2.1.arg hu).2) ?_
  rintro r rfl
  cases b with
  | false => exact ⟨_, rfl, Told.val (by rw [hstep]; rfl)⟩
  | true =>
   refine ⟨j + 1, ⟨hlt, by rw [hstep]; rfl⟩, by simp only; omega, ?_⟩
   exact zab [(0, .blk 0)] rfl rfl rfl rfl (leB rfl) ⟨⟨_, rfl, oneI (zbn (by omega) (by omega))⟩, ⟨_, rfl, rfl⟩, ⟨_, rfl, rfl⟩, ⟨_, rfl, rfl⟩, ⟨_, rfl, rfl⟩, trivial⟩ ⟨⟨_, rfl, rfl⟩, trivial⟩ ⟨⟨TTIn.upS _, fun w h => h.2.2.1⟩, trivial⟩
end Go.Proofs.YtmkpiekbpakigaaDoor
end
section
set_option linter.unusedVariables false
set_option linter.unusedSimpArgs false
namespace Go.Proofs.YtmkpiekbpakigaaDoor
open Go.RowKit Go.Proofs.Base Go.Proofs.Sym
mutual
theorem znd : ∀ (t : TT) (p v d : Int), allT p v d t.tm = true -> zdo 3000 t = if cntT t.tm <= 3000 then cntT t.tm else 3001
 | .mk k n s la lc ls aa ac us, p, v, d, h => by
  rw [zbz] at h ⊢
  unfold allT at h
  rw [Bool.and_eq_true] at h
  obtain ⟨_, _, _, _, _, hl⟩ := zgm h.1
  have hl := (zek hl).1
  have hl4 := (zk6 k).2
  rw [zdo, zbn (n := 1 + (ls.length : Int)) (by omega) (by omega), cntT]
  rcases znc us 0 (1 + ls.length) k p v d h.2 (by omega) (by omega) with ⟨g1, g2⟩ | ⟨g1, g2⟩
  ·rw [if_neg (by omega), if_pos g1, g2]
  ·rw [if_neg (show ¬ (1 + (ls.length : Int) + ze6 (us.map TT.tm) <= 3000) by omega)]
   split <;> omega
theorem znc : ∀ (us : List TT) (i : Nat) (n k p v d : Int), zcd k p v d i (us.map TT.tm) = true -> 0 <= n -> n <= 6001 ->
  (n + ze6 (us.map TT.tm) <= 3000 /\ zeg 3000 us n = n + ze6 (us.map TT.tm)) \/ (3000 < n + ze6 (us.map TT.tm) /\ 3000 < zeg 3000 us n)
 | [], i, n, k, p, v, d, h, h0, h1 => by
  rw [List.map_nil, ze6, zeg]
  omega
 | t :: r, i, n, k, p, v, d, h, h0, h1 => by
  rw [List.map_cons] at h ⊢
  rw [zcd, Bool.and_eq_true] at h
  have h2 := znd t _ _ _ h.1
  have h3 := zik t.tm
  have h4 := zfl (r.map TT.tm)
  rw [ze6, zeg]
  by_cases hn : n <= 3000
  ·rw [if_pos hn]
   have hb : 0 <= zdo 3000 t /\ zdo 3000 t <= 3001 := by rw [h2]; split <;> omega
   rw [zbn (by omega) (by omega)]
   have ih := znc r (i + 1) (n + zdo 3000 t) k p v d h.2 (by omega) (by omega)
   rw [h2] at ih ⊢
   split at ih
   ·rename_i hc
    rw [if_pos hc]
    omega
   ·rename_i hc
    rw [if_neg hc]
    omega
  ·rw [if_neg hn]
   omega
end
mutual
theorem zxo (p v d : Int) : ∀ (t : Tm) (c : Int), allT p v d t = true -> 0 <= c -> c <= 3000 -> (visT c t).1 <= c + cntT t
 | .mk k n s ls args, c, h, h0, h1 => by
  unfold allT at h
  rw [Bool.and_eq_true] at h
  obtain ⟨_, _, _, _, _, hl⟩ := zgm h.1
  have hl := (zek hl).1
  have hl4 := (zk6 k).2
  have hc := zva (ls := ls) h0 h1 (by omega)
  have hp := zfl args
  unfold visT cntT
  by_cases hle : cntB c ls <= 3000
  ·have hd : decide (cntB c ls <= 3000) = true := decide_eq_true hle
   simp only [hd]
   rw [hc] at hle ⊢
   have := zs0 k p v d args 0 (c + (1 + ls.length)) h.2 (by omega) hle
   omega
  ·have hd : decide (cntB c ls <= 3000) = false := decide_eq_false hle
   simp only [hd]
   omega
theorem zs0 (k p v d : Int) : ∀ (ts : List Tm) (i : Nat) (c : Int), zcd k p v d i ts = true -> 0 <= c -> c <= 3000 -> (zdk c ts).1 <= c + ze6 ts
 | [], i, c, _, h0, h1 => by
  unfold zdk ze6
  simp
 | t :: r, i, c, h, h0, h1 => by
  unfold zcd at h
  rw [Bool.and_eq_true] at h
  unfold zdk ze6
  have hle := zxo p _ _ t c h.1 h0 h1
  have hp := zfl r
  have hp2 := zik t
  rcases zte p _ _ t c h.1 h0 h1 with ⟨g1, g2, g3⟩ | ⟨g1, g2⟩
  ·rw [g1]
   simp only
   rw [g2]
   have := zs0 k p v d r (i + 1) (c + cntT t) h.2 (by omega) g3
   omega
  ·rw [g1]
   simp only
   omega
end
theorem zv7 {p v : Int} {t : TT} (h : allT p v 0 t.tm = true) : decide (zdo 3000 t <= 3000) = decide (zb6 t.tm <= 3000) := by
 rw [decide_eq_decide, znd t _ _ _ h]
 unfold zb6
 rcases zte p v 0 t.tm 0 h (by omega) (by omega) with ⟨g1, g2, g3⟩ | ⟨g1, g2⟩
 ·rw [g2]
  repeat' split
  all_goals omega
 ·have hc : ¬ cntT t.tm <= 3000 := by
   intro hc
   have := zxo p v 0 t.tm 0 h (by omega) (by omega)
   omega
  rw [if_neg hc]
  split <;> omega
theorem zv1 (p v : Int) (t : TT) : zbe p v t.tm = (decide (0 <= p) && (decide (p <= 4) && (decide (0 <= v) && (decide (v <= 1099511627776) && (decide (zdo 3000 t <= 3000) && allT p v 0 t.tm))))) := by
 unfold zbe
 cases h : allT p v 0 t.tm with
 | false => simp
 | true => rw [zv7 h]
theorem zi3 (p v : Int) (t : TT) : PCall Tryd.prog 47 [t.val, .int .i64 p, .int .i64 v] (fun w => TTIn w t) (fun r => r = .bool (zbe p v t.tm)) (fun _ _ => True) := by
 have hn := zp3 3000 (by omega) (by omega) t
 have ha := zs6 p v 0 t
 have hs := zv1 p v t
 obtain ⟨Z, hZ⟩ : ∃ Z, zbe p v t.tm = Z := ⟨_, rfl⟩
 rw [hZ] at hs ⊢
 clear hZ
 obtain ⟨nr, hnr⟩ : ∃ x, zdo 3000 t = x := ⟨_, rfl⟩
 obtain ⟨a, hae⟩ : ∃ x, allT p v 0 t.tm = x := ⟨_, rfl⟩
 rw [hnr] at hn hs
 rw [hae] at ha hs
 obtain ⟨k, n, s, la, lc, ls, aa, ac, us⟩ := t
 refine zat zae 32 [.tmp 6] Tryd.func47 rfl rfl (by kernel_rfl) rfl _ (leB rfl) (TTIn.upS _) (fun _ => Up.true) ?_
 refine zah zae [] _ _ _ ?_
 refine zaf (fun h1 => ?_) (fun h1 => ?_)
 rotate_left
 ·exact ⟨_, rfl, Told.val (by rw [hs, show decide (0 <= p) = false from h1]; rfl)⟩
 refine zaf (fun h2 => ?_) (fun h2 => ?_)
 rotate_left
 ·exact ⟨_, rfl, Told.val (by rw [hs, show decide (0 <= p) = true from h1, show decide (p <= 4) = false from h2]; rfl)⟩
 refine zaf (fun h3 => ?_) (fun h3 => ?_)
 rotate_left
 ·exact ⟨_, rfl, Told.val (by rw [hs, show decide (0 <= p) = true from h1, show decide (p <= 4) = true from h2, show decide (0 <= v) = false from h3]; rfl)⟩
 refine zaf (fun h4 => ?_) (fun h4 => ?_)
 rotate_left
 ·exact ⟨_, rfl, Told.val (by rw [hs, show decide (0 <= p) = true from h1, show decide (p <= 4) = true from h2, show decide (0 <= v) = true from h3, show decide (v <= 1099511627776) = false from h4]; rfl)⟩
 rw [show decide (0 <= p) = true from h1, show decide (p <= 4) = true from h2, show decide (0 <= v) = true from h3, show decide (v <= 1099511627776) = true from h4] at hs
 refine zag hn (fun _ => rfl) (fun w h => h.1) ?_
 rintro r rfl
 refine zaf (fun h5 => ?_) (fun h5 => ?_)
 rotate_left
 ·exact ⟨_, rfl, Told.val (by rw [hs, show decide (nr <= 3000) = false from h5]; rfl)⟩
 rw [show decide (nr <= 3000) = true from h5] at hs
 refine zag ha (fun _ => rfl) (fun w h => h.2.1) ?_
 rintro r rfl
 exact ⟨_, rfl, Told.val (by rw [hs]; rfl)⟩
theorem zy0 (t : TT) : PCall Tryd.prog 37 [t.val] (fun w => TTIn w t) (fun r => r = .bool (zbe 4 1099511627776 t.tm)) (fun _ _ => True) := by
 have hr := zi3 4 1099511627776 t
 obtain ⟨Z, hZ⟩ : ∃ Z, zbe 4 1099511627776 t.tm = Z := ⟨_, rfl⟩
 rw [hZ] at hr ⊢
 obtain ⟨k, n, s, la, lc, ls, aa, ac, us⟩ := t
 refine zat zae 5 [.tmp 2] Tryd.func37 rfl rfl (by kernel_rfl) rfl _ (leB rfl) (TTIn.upS _) (fun _ => Up.true) ?_
 refine zah zae [] _ _ _ ?_
 refine zag hr (fun _ => rfl) (fun w h => h.1) ?_
 rintro r rfl
 exact ⟨_, rfl, Told.val rfl⟩
end Go.Proofs.YtmkpiekbpakigaaDoor
end
section
set_option linter.unusedVariables false
set_option linter.unusedSimpArgs false
namespace Go.Proofs.YtmkpiekbpakigaaDoor
open Go.RowKit Go.Proofs.Base Go.Proofs.Sym
def lvA (l : Lv) : SV := .agg ((zba l).map SA.v)
theorem zu3 (n : Int) : zay Tryd.prog 46 [.one (.v (.int .i64 n))] [] 0 (fun _ => True) (fun _ : Unit => True) (fun _ => { v := lvA ⟨n, -1, -1, -1, -1⟩, m := [], k := 0 }) := by
 refine zaw zae 6 [.cell 2 24] Tryd.func46 rfl rfl (by kernel_rfl) rfl _ (leB rfl) Up.true ?_
 refine zah zae [] _ _ _ ?_
 refine ⟨_, rfl, (), trivial, rfl, ?_⟩
 exact zab [] rfl rfl rfl rfl (leB rfl) (rs rfl rfl) trivial ⟨⟨Up.true, fun w h => trivial⟩, trivial⟩
def ownP : Nat -> Lv
 | 0 => ⟨0, 0, -1, -1, -1⟩
 | 1 => ⟨0, -1, 0, -1, -1⟩
 | 2 => ⟨0, -1, -1, 0, -1⟩
 | _ => ⟨0, -1, -1, -1, 0⟩
theorem zvd (i : Nat) (hi : i < 4) : zay Tryd.prog 44 [.one (.v (.int .i64 (i : Int))), .one (.v (.int .i64 0))] [] 0 (fun _ => True) (fun _ : Unit => True) (fun _ => { v := lvA (ownP i), m := [], k := 0 }) := by
 have h4 : i = 0 \/ i = 1 \/ i = 2 \/ i = 3 := by omega
 rcases h4 with rfl | rfl | rfl | rfl
 all_goals
  refine zaw zae 29 [.cell 4 24] Tryd.func44 rfl rfl (by kernel_rfl) rfl _ (leB rfl) Up.true ?_
  refine zah zae [] _ _ _ ?_
  refine zad [] (zu3 (-1)) rfl trivial rfl rfl (fun _ _ => trivial) (fun _ _ => ⟨rfl, rfl⟩) (fun _ _ => ?_)
  first
   | refine ⟨{ n := 0 }, ⟨rfl, by decide⟩, ?_⟩
   | refine ⟨{ n := 1 }, ⟨rfl, by decide⟩, ?_⟩
   | refine ⟨{ n := 2 }, ⟨rfl, by decide⟩, ?_⟩
   | refine ⟨{ n := 3 }, ⟨rfl, by decide⟩, ?_⟩
  refine ⟨_, rfl, (), trivial, rfl, ?_⟩
  exact zab [] rfl rfl rfl rfl (leB rfl) (rs rfl rfl) trivial ⟨⟨Up.true, fun w h => trivial⟩, trivial⟩
end Go.Proofs.YtmkpiekbpakigaaDoor
end
section
set_option linter.unusedVariables false
set_option linter.unusedSimpArgs false
namespace Go.Proofs.YtmkpiekbpakigaaDoor
open Go.RowKit Go.Proofs.Base Go.Proofs.Sym
def ownL : List Lv := [ownP 0, ownP 1, ownP 2, ownP 3]
def atP (k : Nat) (n : Int) : Lv := match k with
 | 0 => ⟨n, n, -1, -1, -1⟩
 | 1 => ⟨n, -1, n, -1, -1⟩
 | 2 => ⟨n, -1, -1, n, -1⟩
 | _ => ⟨n, -1, -1, -1, n⟩
theorem zaag (k : Nat) (hk : k < 4) (n : Int) (h0 : 0 <= n) (h1 : n <= 100) : (ownP k).up n = (atP k n, true) := by
 have h4 : k = 0 \/ k = 1 \/ k = 2 \/ k = 3 := by omega
 rcases h4 with rfl | rfl | rfl | rfl
 all_goals
  unfold Lv.up
  rw [if_pos ⟨by decide, h0, by show n <= 100 - 0; omega⟩]
  simp [ownP, atP, Lv.up1]
theorem zrr (ps : List Lv) (q a : Lv) : (ps ++ [q]).foldl Lv.max2 a = (ps.foldl Lv.max2 a).max2 q := by
 rw [List.foldl_append]
 rfl
section
variable (b p0 p1 p2 p3 : Int)
def curL (k : Nat) : Lv := ⟨b, if 0 < k then p0 else -1, if 1 < k then p1 else -1, if 2 < k then p2 else -1, if 3 < k then p3 else -1⟩
def zza (k : Nat) : Prop := ∃ ps, Lv.instGo ⟨b, p0, p1, p2, p3⟩ ownL k = some ps /\ ps.all Lv.right = true /\ ps.foldl Lv.max2 (Lv.num 0) = curL b p0 p1 p2 p3 k
theorem zie (hr : (Lv.mk b p0 p1 p2 p3).right = true) (k : Nat) (hk : k < 4) (h : zza b p0 p1 p2 p3 k) : zza b p0 p1 p2 p3 (k + 1) := by
 obtain ⟨ps, h1, h2, h3⟩ := h
 have hb := Lv.right_bd hr
 simp only at hb
 have h4 : k = 0 \/ k = 1 \/ k = 2 \/ k = 3 := by omega
 have hg : ownL[k]? = some (ownP k) := by rcases h4 with rfl | rfl | rfl | rfl <;> rfl
 have hrk : (ownP k).right = true := by rcases h4 with rfl | rfl | rfl | rfl <;> decide
 obtain ⟨q, hq⟩ : ∃ q, Lv.p ⟨b, p0, p1, p2, p3⟩ k = q := ⟨_, rfl⟩
 have hpk : -1 <= q /\ q <= b /\ b <= 100 := by
  rcases h4 with rfl | rfl | rfl | rfl <;> simp only [Lv.p] at hq <;> omega
 have hgo : Lv.instGo ⟨b, p0, p1, p2, p3⟩ ownL (k + 1) = some (if q = -1 then ps else ps ++ [atP k q]) := by
  rw [Lv.instGo, h1, hg]
  simp only
  rw [hrk, if_neg (by decide), hq]
  by_cases hk1 : q = -1
  ·rw [if_pos (.inr hk1), if_pos hk1]
  ·rw [if_neg (by omega), if_neg hk1, zaag k hk _ (by omega) (by omega)]
   rfl
 refine ⟨_, hgo, ?_, ?_⟩
 ·split
  ·exact h2
  ·rename_i hq1
   rw [List.all_append, h2, Bool.true_and]
   have : (atP k q).right = true := by
    rcases h4 with rfl | rfl | rfl | rfl <;> simp [Lv.right, atP] <;> omega
   simp [this]
 ·split
  ·rename_i hq1
   rw [h3]
   rcases h4 with rfl | rfl | rfl | rfl <;> simp only [Lv.p] at hq <;> simp [curL, hq, hq1]
  ·rename_i hq1
   rw [zrr, h3]
   rcases h4 with rfl | rfl | rfl | rfl <;> simp only [Lv.p] at hq <;> subst hq <;> simp only [curL, Lv.max2, atP, mxi, Lv.mk.injEq] <;> refine ⟨?_, ?_, ?_, ?_, ?_⟩ <;> simp <;> omega
end
theorem zw0 {l : Lv} (hr : l.right = true) : l.inst ownL = (l, true) := by
 obtain ⟨b, p0, p1, p2, p3⟩ := l
 have hb := Lv.right_bd hr
 simp only at hb
 have h0 : zza b p0 p1 p2 p3 0 := by
  refine ⟨[Lv.num b], rfl, ?_, ?_⟩
  ·simp [Lv.right, Lv.num]
   omega
  ·simp only [List.foldl_cons, List.foldl_nil, Lv.max2, Lv.num, mxi, curL, Lv.mk.injEq]
   refine ⟨?_, ?_, ?_, ?_, ?_⟩ <;> simp <;> omega
 obtain ⟨ps, h1, h2, h3⟩ := zie _ _ _ _ _ hr 3 (by decide) (zie _ _ _ _ _ hr 2 (by decide) (zie _ _ _ _ _ hr 1 (by decide) (zie _ _ _ _ _ hr 0 (by decide) h0)))
 have hw : Lv.width ⟨b, p0, p1, p2, p3⟩ <= ((ownL.length : Nat) : Int) := by
  unfold Lv.width
  show _ <= (4 : Int)
  split
  ·omega
  ·split
   ·omega
   ·split
    ·omega
    ·split <;> omega
 unfold Lv.inst
 rw [if_pos ⟨hr, hw⟩]
 unfold Lv.instFin
 rw [show ownL.length = 3 + 1 from rfl, h1]
 simp only
 unfold Lv.maxl
 rw [if_pos h2, h3]
 rfl
end Go.Proofs.YtmkpiekbpakigaaDoor
end
