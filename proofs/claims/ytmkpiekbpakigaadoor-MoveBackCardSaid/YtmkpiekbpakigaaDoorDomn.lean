/- What the claim needs of Ms1, Own6, Ra, Rb, Rc, Rd0, Re, Rf, Mb1, Ml2, in one text. -/
import Derived.Test.YtmkpiekbpakigaaDoorDomg
import Derived.Test.YtmkpiekbpakigaaDoorDomh
import Derived.Test.YtmkpiekbpakigaaDoorDomj
import Derived.Test.YtmkpiekbpakigaaDoorDomm
section
set_option linter.unusedVariables false
set_option linter.unusedSimpArgs false
namespace Go.Proofs.YtmkpiekbpakigaaDoor
open Go.RowKit Go.Proofs.Base Go.Proofs.Sym
def zT : TT := zbc 0 0 ⟨#[]⟩
theorem zabc (w : World) : TTIn w zT := zei w (I64.small _ (by decide) (by decide)) (I64.small _ (by decide) (by decide)) (by decide)
def qOk (o : Option Tm) (q : Bool × TT) : Prop := match o with
 | none => q = (false, zT)
 | some u => q.1 = true /\ q.2.tm = u
def qRes (q : Bool × TT) : LRes := { v := .tup [.agg (q.2.cells.map SA.v), .one (.v (.bool q.1))], m := [], k := 0, F := fun w => TTIn w q.2 }
end Go.Proofs.YtmkpiekbpakigaaDoor
namespace Go.Proofs.Sym
open Go.RowKit Go.Proofs.Base Go.Proofs.YtmkpiekbpakigaaDoor
theorem zaw.q {P : Program} {f : FuncId} {args : List SV} {m : List (Nat × LB)} {b : Nat} {pre : World -> Prop} {o : Option Tm} (h : zaw P f args m b pre (ze2 (some o)) (zb5 (some o))) : zaw P f args m b pre (qOk o) qRes := by
 cases o with
 | none => exact zaw.told h h.up (fun w h => h) (fun _ => (false, zT)) (fun _ _ => rfl) (fun x _ => ⟨fun w => TTIn w zT, TTIn.upS _, fun w _ => zabc w, rfl⟩)
 | some u => exact zaw.told h h.up (fun w h => h) (fun x => (true, x)) (fun x hx => ⟨rfl, hx⟩) (fun x _ => ⟨fun w => TTIn w x, TTIn.upS _, fun w h => h, rfl⟩)
end Go.Proofs.Sym
namespace Go.Proofs.YtmkpiekbpakigaaDoor
open Go.RowKit Go.Proofs.Base Go.Proofs.Sym
theorem amG.snoc {ys : List TT} {y : TT} {w : World} (h : amG ys w) (hy : TTIn w y) : amG (ys ++ [y]) w := ⟨h.1, fun z hz => by
 rcases List.mem_append.1 hz with hz | hz
 ·exact h.2 z hz
 ·rw [List.mem_singleton.1 hz]
  exact hy⟩
end Go.Proofs.YtmkpiekbpakigaaDoor
end
section
set_option linter.unusedVariables false
set_option linter.unusedSimpArgs false
namespace Go.Proofs.YtmkpiekbpakigaaDoor
open Go.ChangeShapes Go.WideShapes Go.ChangeAt Go.RowKit Go.Proofs.Base Go.Proofs.Sym
mutual
theorem zn1 : ∀ t : TT, TTB t -> tmB t.tm
 | .mk k n s la lc ls aa ac us, h => by
  unfold TTB at h
  rw [zbt]
  unfold tmB
  refine ⟨h.1, ?_, ?_⟩
  ·rw [List.length_map]
   exact h.2.1
  ·exact zpc us h.2.2
theorem zpc : ∀ us : List TT, TTBs us -> tmBs (us.map TT.tm)
 | [], _ => by
  show tmBs []
  unfold tmBs
  trivial
 | u :: r, h => by
  unfold TTBs at h
  show tmBs (u.tm :: r.map TT.tm)
  unfold tmBs
  exact ⟨zn1 u h.1, zpc r h.2⟩
end
section
variable {H : Type} {enc : TypeId × Value -> H} {w : World} {base : Nat} {sp : Nat -> Bool} {held : Bool}
set_option maxRecDepth 100000 in
theorem znb {r : Reach} {b0 : Nat} {v : Value} {d : DataW H} {ps : List MemPlace} (hval : Value.okWide Tryd.prog w r b0 41 v) (h : DataW.Trod enc Tryd.prog w base sp held 41 v d ps) (hw : WtOk 41 d) : ∃ t : TT, v = t.val /\ TTIn w t /\ TTB t := by
 obtain ⟨cs, rfl, hsz⟩ := okWide_struct Tryd.underlying41 hval
 obtain ⟨fuel, hf⟩ := h
 obtain ⟨t, hc, ht, hb⟩ := zug _ _ _ hf hw
 obtain ⟨cs⟩ := cs
 simp only [Value.cells] at hc
 exact ⟨t, by rw [show cs = t.cells from hc]; rfl, ht, hb⟩
set_option maxRecDepth 100000 in
theorem zkt {r : Reach} {b0 : Nat} {v : Value} {d : DataW H} {ps : List MemPlace} (hval : Value.okWide Tryd.prog w r b0 39 v) (h : DataW.Trod enc Tryd.prog w base sp held 39 v d ps) (hw : WtOk 39 d) :
  ∃ (A : Option Addr) (c : Nat) (ts : List TT), v = .slice A ts.length c /\ TsIn w A c ts /\ ∀ t ∈ ts, TTB t := by
 obtain ⟨A, len, cap, rfl⟩ := okWide_slice Tryd.underlying39 hval
 obtain ⟨fuel, hf⟩ := h
 obtain ⟨A', c', ts, e, g1, g2, g3, gw, g4⟩ := zt8 TT.cells (fun t => TTIn w t /\ TTB t) Tryd.underlying39 zoa zr6 TT.cells_len hf hw (fun n hn cs x hx hw => zug _ _ _ hx hw)
 simp [Value.cells] at e
 obtain ⟨rfl, rfl, rfl⟩ := e
 refine ⟨_, _, ts, rfl, ⟨zsd ts 0 (fun j t hj => ?_), g3, g1, g2⟩, fun d hd => ?_⟩
 ·have := g4 j t hj
  rw [Nat.zero_add]
  exact ⟨this.1, this.2.1⟩
 ·obtain ⟨i, hi, e⟩ := List.getElem_of_mem hd
  exact (g4 i d (by rw [<- e]; exact List.getElem?_eq_getElem hi)).2.2
end
theorem zyp {f : FuncId} {args : List Value} {pre : World -> Prop} (h : PCall Tryd.prog f args pre (fun r => r = .bool true) (fun _ _ => True)) (hu : Up pre) (w : World) (hp : pre w) : Calls Tryd.prog f args.toArray w fun e w' => e = .returned (.bool true) /\ Below w.heap.size w w' :=
 (h.run w (fun _ => False) (fun _ h => h.elim) (hu _ _ (fun g o hg ho => by rw [zc1, hg]; simp) hp)).mono fun en w' ⟨r, h1, h2, _, h4⟩ => ⟨by rw [h1, h2], h4⟩
end Go.Proofs.YtmkpiekbpakigaaDoor
end
section
set_option linter.unusedVariables false
set_option linter.unusedSimpArgs false
namespace Go.Proofs.Sym
open Go.RowKit Go.Proofs.Base Go.Proofs.Mono
theorem zai.blk {P : Program} {N : Nat} {c : Code} {K : Exit -> St -> Prop} {st : St} (i : Nat) {t : TypeId} {cs : List SA} {vs : List Value} (hi : get i st.m = some (.cells t cs)) (hp : zcp cs = some vs)
  (h : ∀ g, zai P N c K (sbSt (blkA i g) i (fun w => SlAt w (some ⟨g, 0, none⟩) vs) st)) : zai P N c K st := by
 refine ⟨fun cx e a w hn hS => (h (e.blk i)).run cx e a w hn ⟨hS.base, hS.size, hS.defers, fun t u hu => ?_, ?_⟩⟩
 ·obtain ⟨u0, h1, rfl⟩ := zi5 hu
  obtain ⟨h2, h3⟩ := hS.slots _ _ h1
  exact ⟨(zeo rfl).vlt h2, by rw [h3, (zeo rfl).v]⟩
 ·refine hS.mem.spell hi (zeo rfl) (SlAt.up _ _) ?_
  intro j u hj
  have hb := zb3 (H := fun g => cx.H g \/ ∃ j, j ≠ i /\ At e st.m j g) (hS.mem.cells i t cs hi) (hS.mem.others ⟨_, hi, rfl⟩)
  refine ⟨_, rfl, ?_⟩
  rw [zbk, cell_of_row _ (e.blk i) (0 + j) _ _ _ hb, zbm e hp]
  simpa using hj
end Go.Proofs.Sym
namespace Go.Proofs.YtmkpiekbpakigaaDoor
open Go.RowKit Go.Proofs.Base Go.Proofs.Sym
def zdf (c : Int) : Bool := (decide (97 <= c) && decide (c <= 122)) || (decide (65 <= c) && decide (c <= 90))
def zmw (c : Int) : Bool := decide (48 <= c) && decide (c <= 57)
theorem zi9 (c : UInt8) : zdf (c.toNat : Int) = zds (c.toNat : Int) := by
 have h : ∀ n : Fin 256, zdf (n.val : Int) = zds (n.val : Int) := by decide +kernel
 exact h ⟨c.toNat, c.toNat_lt⟩
def zht (c : Int) : Bool := zdf c || zmw c || decide (c = 95)
theorem zvg (c : UInt8) : zht (c.toNat : Int) = zmb (c.toNat : Int) := by
 unfold zht zmb
 rw [zi9]
 rfl
def zd3 : Bool -> List UInt8 -> Option Bool
 | b, [] => some b
 | b, c :: r => if (b && !zdf (c.toNat : Int)) = true then none else if c = 46 then zd3 true r else if zht (c.toNat : Int) = true then zd3 false r else none
theorem zw2 : zdf ((46 : UInt8).toNat : Int) = false := by decide
theorem zep {c : Int} (h : zdf c = true) : zht c = true := by
 unfold zht
 rw [h]
 rfl
theorem zpm : ∀ (l : List UInt8) (x : List UInt8) (xs : List (List UInt8)), za5 l = x :: xs ->
  (decide (zd3 true l = some false) = (zgd x && xs.all zgd)) /\ (decide (zd3 false l = some false) = (zjr x && xs.all zgd))
 | [], x, xs, h => by
  cases h
  exact ⟨by decide, by decide⟩
 | c :: r, x, xs, h => by
  rw [za5] at h
  cases hr : za5 r with
  | nil => exact absurd hr (zf9 r)
  | cons y ys =>
  rw [hr] at h
  simp only at h
  obtain ⟨h1, h2⟩ := zpm r y ys hr
  have hl := zi9 c
  have hs := zvg c
  by_cases hc : c = 46
  ·subst hc
   rw [if_pos (by decide)] at h
   cases h
   refine ⟨?_, ?_⟩
   ·rw [zd3, if_pos (by rw [zw2]; rfl)]
    rfl
   ·rw [zd3, if_neg (by rw [Bool.false_and]; decide), if_pos rfl, h1]
    rfl
  ·rw [if_neg (by simpa using hc)] at h
   cases h
   refine ⟨?_, ?_⟩
   ·rw [zd3, zgd, <- hl]
    cases hlc : zdf (c.toNat : Int) with
    | false =>
     rw [if_pos (by decide)]
     rfl
    | true =>
     rw [if_neg (by decide), if_neg hc, if_pos (zep hlc), h2, zjr, <- hs, zep hlc]
     rfl
   ·rw [zd3, if_neg (by rw [Bool.false_and]; decide), if_neg hc, zjr, <- hs]
    cases hsc : zht (c.toNat : Int) with
    | false =>
     rw [if_neg (by decide)]
     rfl
    | true =>
     rw [if_pos rfl, h2]
     rfl
def zg5 : List UInt8 -> Option (List UInt8)
 | [] => none
 | c :: r => if c = 32 then some [] else (zg5 r).map (c :: ·)
def segs : List UInt8 -> List (List UInt8)
 | [] => []
 | b :: r => if b = 32 then (match zg5 r with | some x => x :: segs r | none => segs r) else segs r
theorem zl1 (b : UInt8) (r sub : List UInt8) : Lib.contains (b :: r) sub = (sub.isPrefixOf (b :: r) || Lib.contains r sub) := by
 have := Lib.index_ge r sub
 unfold Lib.contains
 rw [Lib.index]
 cases h : sub.isPrefixOf (b :: r) with
 | true => simp
 | false =>
  rw [if_neg (by decide)]
  by_cases h2 : Lib.index r sub = -1
  ·rw [if_pos (by rw [h2]; rfl), h2]
   rfl
  ·rw [if_neg (by simpa using h2), Bool.false_or]
   rw [decide_eq_decide]
   omega
theorem zg0 : ∀ (l r : List UInt8), (∀ c ∈ l, c ≠ 32) -> (l ++ [32]).isPrefixOf r = decide (zg5 r = some l)
 | [], [], _ => by decide
 | [], c :: r, _ => by
  rw [List.nil_append, zg5]
  by_cases hc : c = 32
  ·subst hc
   rw [if_pos rfl]
   cases r <;> rfl
  ·rw [if_neg hc]
   have h1 : ([32] : List UInt8).isPrefixOf (c :: r) = false := by
    simp [List.isPrefixOf]
    exact fun h => hc h.symm
   rw [h1]
   cases zg5 r <;> simp
 | x :: l, [], _ => by
  simp [List.isPrefixOf, zg5]
 | x :: l, c :: r, h => by
  have hx := h x List.mem_cons_self
  have ih := zg0 l r (fun c hc => h c (List.mem_cons_of_mem _ hc))
  rw [List.cons_append, List.isPrefixOf, ih, zg5]
  by_cases hc : c = 32
  ·subst hc
   rw [if_pos rfl]
   simp [hx]
  ·rw [if_neg hc]
   cases zg5 r with
   | none => simp
   | some y =>
    simp only [Option.map_some, Option.some.injEq, List.cons.injEq]
    by_cases hxc : x = c
    ·subst hxc
     simp
    ·have : (x == c) = false := by simpa using hxc
     rw [this, decide_eq_false (p := c = x /\ y = l) (fun h => hxc h.1.symm)]
     simp
theorem zgp (l : List UInt8) (h : ∀ c ∈ l, c ≠ 32) : ∀ R : List UInt8, Lib.contains R (32 :: (l ++ [32])) = (segs R).any (fun x => decide (x = l))
 | [] => by
  unfold Lib.contains
  rw [Lib.index]
  rfl
 | b :: r => by
  rw [zl1, zgp l h r, List.isPrefixOf, zg0 l r h, segs]
  by_cases hb : b = 32
  ·subst hb
   rw [if_pos rfl]
   cases zg5 r with
   | none => simp
   | some x => simp
  ·rw [if_neg hb]
   have : ((32 : UInt8) == b) = false := by
    simp
    exact fun h => hb h.symm
   rw [this]
   rfl
def zf6 : List (List UInt8) := [[80, 114, 111, 112], [84, 121, 112, 101], [102, 117, 110], [97, 108, 108], [108, 101, 116], [105, 110], [111, 102], [119, 105, 116, 104], [97, 120, 105, 111, 109], [100, 101, 102], [116, 104, 101, 111, 114, 101, 109], [102, 97, 109, 105, 108, 121], [117, 48], [117, 49], [117, 50], [117, 51]]
theorem zks : segs zjb = zf6 := by decide +kernel
theorem zhw : ∀ (l : List UInt8) (b c : Bool), zd3 b l = some c -> ∀ x ∈ l, x ≠ 32
 | [], _, _, _ => fun x hx => by cases hx
 | d :: r, b, c, h => by
  rw [zd3] at h
  split at h
  ·cases h
  ·intro x hx
   rcases List.mem_cons.1 hx with rfl | hx
   ·rintro rfl
    split at h
    ·rename_i h2
     revert h2
     decide
    ·split at h
     ·rename_i h3
      revert h3
      decide
     ·cases h
   ·split at h
    ·exact zhw r _ _ h x hx
    ·split at h
     ·exact zhw r _ _ h x hx
     ·cases h
def zl7 (l : List UInt8) : Bool := match zd3 true l with
 | none => false
 | some b => !zf6.any (fun x => decide (x = l)) && !b
theorem zso (s : ByteArray) : (decide (1 <= s.size) && (decide (s.size <= 32) && zl7 s.data.toList)) = zc6 s := by
 obtain ⟨⟨l⟩⟩ := s
 show (decide (1 <= l.length) && (decide (l.length <= 32) && zl7 l)) = (decide (l.length <= 32) && !zdl ⟨⟨l⟩⟩ && (za5 l).all zgd)
 have hres : (∀ c ∈ l, c ≠ 32) -> zdl ⟨⟨l⟩⟩ = zf6.any (fun x => decide (x = l)) := fun h => by
  rw [<- zks, <- zgp l h zjb]
  rfl
 cases hs : za5 l with
 | nil => exact absurd hs (zf9 l)
 | cons x xs =>
 have h1 := (zpm l x xs hs).1
 rw [List.all_cons, <- h1]
 have h0 : l = [] -> zd3 true l = some true := fun h => by rw [h]; rfl
 unfold zl7
 cases hw : zd3 true l with
 | none => simp
 | some b =>
  simp only
  rw [hres (zhw l _ _ hw)]
  cases b with
  | true => simp
  | false =>
   have hl : 1 <= l.length := by
    cases l with
    | nil => rw [h0 rfl] at hw; cases hw
    | cons => simp
   rw [decide_eq_true hl]
   simp
end Go.Proofs.YtmkpiekbpakigaaDoor
end
section
set_option linter.unusedVariables false
set_option linter.unusedSimpArgs false
namespace Go.Proofs.YtmkpiekbpakigaaDoor
open Go.RowKit Go.Proofs.Base Go.Proofs.Sym
theorem zq0 (c : Int) : PCall Tryd.prog 90 [.int .u8 c] (fun _ => True) (fun r => r = .bool (zdf c)) (fun _ _ => True) := by
 refine zaq zab 17 [.tmp 2] Tryd.func90 rfl rfl (by kernel_rfl) rfl _ (leB rfl) Up.true (fun _ => Up.true) ?_
 refine zaf zab [] _ _ _ ?_
 have fin : ∀ b1 b2 b3 b4, decide (97 <= c) = b1 -> decide (c <= 122) = b2 -> decide (65 <= c) = b3 -> decide (c <= 90) = b4 -> zdf c = ((b1 && b2) || (b3 && b4)) := fun b1 b2 b3 b4 h1 h2 h3 h4 => by rw [zdf, h1, h2, h3, h4]
 obtain ⟨b2, e2⟩ : ∃ b, decide (c <= 122) = b := ⟨_, rfl⟩
 obtain ⟨b3, e3⟩ : ∃ b, decide (65 <= c) = b := ⟨_, rfl⟩
 obtain ⟨b4, e4⟩ : ∃ b, decide (c <= 90) = b := ⟨_, rfl⟩
 refine zad (fun h1 => ?_) (fun h1 => ?_)
 ·refine zad (fun h2 => ?_) (fun h2 => ?_)
  ·exact ⟨_, rfl, Told.val (by rw [fin _ _ _ _ h1 h2 e3 e4]; cases b3 <;> cases b4 <;> rfl)⟩
  ·refine zad (fun h3 => ?_) (fun h3 => ?_)
   ·exact ⟨_, rfl, Told.val (by rw [fin _ _ _ _ h1 h2 h3 rfl]; rfl)⟩
   ·exact ⟨_, rfl, Told.val (by rw [fin _ _ _ _ h1 h2 h3 e4]; cases b4 <;> rfl)⟩
 ·refine zad (fun h3 => ?_) (fun h3 => ?_)
  ·exact ⟨_, rfl, Told.val (by rw [fin _ _ _ _ h1 e2 h3 rfl]; cases b2 <;> rfl)⟩
  ·exact ⟨_, rfl, Told.val (by rw [fin _ _ _ _ h1 e2 h3 e4]; cases b2 <;> cases b4 <;> rfl)⟩
theorem zvi (c : Int) : PCall Tryd.prog 91 [.int .u8 c] (fun _ => True) (fun r => r = .bool (zmw c)) (fun _ _ => True) := by
 refine zaq zab 9 [.tmp 2] Tryd.func91 rfl rfl (by kernel_rfl) rfl _ (leB rfl) Up.true (fun _ => Up.true) ?_
 refine zaf zab [] _ _ _ ?_
 refine zad (fun h1 => ?_) (fun h1 => ?_)
 ·have h1 : decide (48 <= c) = true := h1
  exact ⟨_, rfl, Told.val (by rw [zmw, h1]; rfl)⟩
 ·have h1 : decide (48 <= c) = false := h1
  exact ⟨_, rfl, Told.val (by rw [zmw, h1]; rfl)⟩
theorem zw5 {L : List UInt8} {j : Nat} (h : j < L.length) (b : Bool) : zd3 b (L.drop j) = (if (b && !zdf ((L.getD j 0).toNat : Int)) = true then none else if L.getD j 0 = 46 then zd3 true (L.drop (j + 1)) else if zht ((L.getD j 0).toNat : Int) = true then zd3 false (L.drop (j + 1)) else none) := by
 rw [List.drop_eq_getElem_cons h, zd3]
 simp [List.getD, List.getElem?_eq_getElem h]
theorem zp5 {x : List UInt8} {s : ByteArray} : ((⟨x.toArray⟩ : ByteArray) = s) ↔ x = s.data.toList := by
 obtain ⟨⟨l⟩⟩ := s
 constructor
 ·intro h
  cases h
  rfl
 ·rintro rfl
  rfl
def zqm : List Value := zf6.map fun x => .string ⟨x.toArray⟩
theorem zwh {s : ByteArray} {b : Bool} (h1 : 1 <= s.size) (h2 : s.size <= 32) (hb : zl7 s.data.toList = b) : zc6 s = b := by
 rw [<- zso, decide_eq_true h1, decide_eq_true h2, hb]
 rfl
theorem zj4 {L : List UInt8} (h : zd3 true L = none) : zl7 L = false := by
 unfold zl7
 rw [h]
theorem zq8 {L : List UInt8} {b : Bool} (h : zd3 true L = some b) : zl7 L = (!zf6.any (fun x => decide (x = L)) && !b) := by
 unfold zl7
 rw [h]
set_option maxHeartbeats 2000000 in
theorem zwy (s : ByteArray) : PCall Tryd.prog 42 [.string s] (fun _ => True) (fun r => r = .bool (zc6 s)) (fun _ _ => True) := by
 refine zaq zab 69 [.tmp 2] Tryd.func42 rfl rfl (by kernel_rfl) rfl _ (leB rfl) Up.true (fun _ => Up.true) ?_
 have hsz := zgl s
 have hend := fun b => @zwh s b
 obtain ⟨W, hW⟩ : ∃ W, zc6 s = W := ⟨_, rfl⟩
 have hW1 := (zso s).trans hW
 rw [hW] at hend
 rw [hW]
 refine zaf zab [15] _ _ _ ?_
 refine zad (fun h1 => ?_) (fun h1 => ?_)
 ·have h1 : decide ((s.size : Int) < 1) = true := h1
  have h1 := of_decide_eq_true h1
  rw [decide_eq_false (by omega)] at hW1
  exact ⟨_, rfl, Told.val (by rw [<- hW1]; rfl)⟩
 have h1 : decide ((s.size : Int) < 1) = false := h1
 have h1 := of_decide_eq_false h1
 refine zad (fun h2 => ?_) (fun h2 => ?_)
 ·have h2 : decide ((32 : Int) < (s.size : Int)) = true := h2
  have h2 := of_decide_eq_true h2
  rw [decide_eq_false (p := s.size <= 32) (by omega)] at hW1
  exact ⟨_, rfl, Told.val (by rw [<- hW1, Bool.false_and, Bool.and_false])⟩
 have h2 : decide ((32 : Int) < (s.size : Int)) = false := h2
 have h2 := of_decide_eq_false h2
 have hend := fun b => hend b (by omega) (by omega)
 clear hW1 hW
 refine ⟨⟨Nat × Bool, fun x => x.1 <= s.size /\ zd3 true s.data.toList = zd3 x.2 (s.data.toList.drop x.1),
  fun x => { s := [(0, .one (.v (.string s))), (3, .one (.v (.bool x.2))), (4, .one (.v (.int .i64 (x.1 : Int))))], m := [], k := 0, f := [] },
  fun x => s.size - x.1, ⟨(0, true), ⟨Nat.zero_le _, rfl⟩, ?_⟩, ?_⟩⟩
 ·exact zaa [] rfl rfl rfl rfl (Nat.zero_le _) ⟨⟨_, rfl, rfl⟩, ⟨_, rfl, rfl⟩, ⟨_, rfl, rfl⟩, trivial⟩ trivial trivial
 rintro ⟨j, b⟩ ⟨hj, hsc⟩
 simp only at hj hsc
 refine zad (fun hlt => ?_) (fun hge => ?_)
 rotate_left
 ·have hge : s.size <= j := by
   have h : decide ((j : Int) < (s.size : Int)) = false := hge
   have := of_decide_eq_false h
   omega
  rw [List.drop_eq_nil_of_le (by omega)] at hsc
  have hw := zq8 (b := b) hsc
  refine zai.blk 0 rfl rfl (fun g => ?_)
  refine zai.ent (st' := { s := [(0, .one (.v (.string s))), (3, .one (.v (.bool b))), (5, .one (.v (.slice (some ⟨g, 0, none⟩) 16 16)))], m := [], k := 0, f := [fun w => SlAt w (some ⟨g, 0, none⟩) zqm] }) (zaa [] rfl rfl rfl rfl (Nat.zero_le _) ⟨⟨_, rfl, rfl⟩, ⟨_, rfl, rfl⟩, ⟨_, rfl, rfl⟩, trivial⟩ trivial ⟨⟨SlAt.up _ _, fun w h => h.1⟩, trivial⟩) ?_
  refine zaf zab [] _ _ _ ?_
  refine ⟨⟨Nat, fun j => j <= 16 /\ (zf6.take j).any (fun x => decide (x = s.data.toList)) = false,
   fun j => { s := [(0, .one (.v (.string s))), (3, .one (.v (.bool b))), (5, .one (.v (.slice (some ⟨g, 0, none⟩) 16 16))), (6, .one (.v (.int .i64 (j : Int))))], m := [], k := 0, f := [fun w => SlAt w (some ⟨g, 0, none⟩) zqm] },
   fun j => 16 - j, ⟨0, ⟨Nat.zero_le _, rfl⟩, ?_⟩, ?_⟩⟩
  ·exact zaa [] rfl rfl rfl rfl (Nat.zero_le _) ⟨⟨_, rfl, rfl⟩, ⟨_, rfl, rfl⟩, ⟨_, rfl, rfl⟩, ⟨_, rfl, rfl⟩, trivial⟩ trivial ⟨⟨SlAt.up _ _, fun w h => h.1⟩, trivial⟩
  rintro q ⟨hq, hany⟩
  refine zad (fun hlt => ?_) (fun hge => ?_)
  ·have hlt : q < 16 := by
    have h : decide ((q : Int) < 16) = true := hlt
    have := of_decide_eq_true h
    omega
   have hlen : zf6.length = 16 := rfl
   obtain ⟨x, hx⟩ : ∃ x, zf6[q]? = some x := ⟨_, List.getElem?_eq_getElem (by omega)⟩
   refine ⟨{ n := q }, ⟨rfl, hlt, fun w h => rfl⟩, ?_⟩
   refine ⟨{ v := .string ⟨x.toArray⟩ }, fun w h => ?_, ?_⟩
   ·obtain ⟨a, ha, hcell⟩ := h.1 q _ (show zqm[q]? = some (.string ⟨x.toArray⟩) by rw [zqm, List.getElem?_map, hx]; rfl)
    cases ha
    exact ⟨_, rfl, by rw [Nat.mul_one]; exact hcell⟩
   refine zad (fun he => ?_) (fun he => ?_)
   ·have he : decide ((⟨x.toArray⟩ : ByteArray) = s) = true := he
    have he := zp5.1 (of_decide_eq_true he)
    have : zf6.any (fun x => decide (x = s.data.toList)) = true := List.any_eq_true.2 ⟨x, List.mem_of_getElem? hx, decide_eq_true he⟩
    rw [this] at hw
    exact ⟨_, rfl, Told.val (by rw [hend _ hw]; rfl)⟩
   ·have he : decide ((⟨x.toArray⟩ : ByteArray) = s) = false := he
    have he := of_decide_eq_false he
    refine ⟨q + 1, ⟨hlt, ?_⟩, by simp only; omega, ?_⟩
    ·rw [List.take_add_one, hx, List.any_append, hany]
     simp only [Option.toList, List.any_cons, List.any_nil]
     rw [decide_eq_false (fun h => he (zp5.2 h))]
     rfl
    ·exact zaa [] rfl rfl rfl rfl (Nat.zero_le _) ⟨⟨_, rfl, rfl⟩, ⟨_, rfl, rfl⟩, ⟨_, rfl, rfl⟩, ⟨_, rfl, oneI (za6 (by omega) (by omega))⟩, trivial⟩ trivial ⟨⟨SlAt.up _ _, fun w h => h.1⟩, trivial⟩
  ·have hge : 16 <= q := by
    have h : decide ((q : Int) < 16) = false := hge
    have := of_decide_eq_false h
    omega
   rw [List.take_of_length_le (show zf6.length <= q from hge)] at hany
   rw [hany] at hw
   exact ⟨_, rfl, Told.val (by rw [hend _ hw]; rfl)⟩
 have hlt2 : j < s.size := by
  have h : decide ((j : Int) < (s.size : Int)) = true := hlt
  have := of_decide_eq_true h
  omega
 clear hlt
 have hlt := hlt2
 clear hlt2
 rw [zw5 (by omega)] at hsc
 -- ROUND
 have hl := zq0 ((s.data.toList.getD j 0).toNat : Int)
 have hd := zvi ((s.data.toList.getD j 0).toNat : Int)
 have hc46 : decide (((s.data.toList.getD j 0).toNat : Int) = 46) = decide (s.data.toList.getD j 0 = 46) := by
  rw [decide_eq_decide]
  have e46 : (46 : UInt8).toNat = 46 := rfl
  constructor
  ·intro h
   exact UInt8.toNat_inj.1 (by omega)
  ·intro h
   rw [h]
   rfl
 obtain ⟨dv, hdv⟩ : ∃ b, zmw ((s.data.toList.getD j 0).toNat : Int) = b := ⟨_, rfl⟩
 rw [hdv] at hd
 obtain ⟨lv, hlv⟩ : ∃ b, zdf ((s.data.toList.getD j 0).toNat : Int) = b := ⟨_, rfl⟩
 rw [hlv] at hl hsc
 cases lv with
 | false =>
  cases b with
  | true =>
   rw [if_pos (show (true && !false) = true from rfl)] at hsc
   refine ⟨{ n := j }, ⟨rfl, hlt⟩, ?_⟩
   refine zae hl (fun _ => rfl) (fun _ _ => trivial) ?_
   rintro r rfl
   exact ⟨_, rfl, Told.val (by rw [hend _ (zj4 hsc)])⟩
  | false =>
   rw [if_neg (show ¬ (false && !false) = true by decide)] at hsc
   refine ⟨{ n := j }, ⟨rfl, hlt⟩, ?_⟩
   refine zad (fun h46 => ?_) (fun h46 => ?_)
   ·have h46 : decide (((s.data.toList.getD j 0).toNat : Int) = 46) = true := h46
    rw [hc46] at h46
    rw [if_pos (of_decide_eq_true h46)] at hsc
    refine ⟨(j + 1, true), ⟨hlt, hsc⟩, by simp only; omega, ?_⟩
    exact zaa [] rfl rfl rfl rfl (Nat.zero_le _) ⟨⟨_, rfl, rfl⟩, ⟨_, rfl, rfl⟩, ⟨_, rfl, oneI (za6 (by omega) (by omega))⟩, trivial⟩ trivial trivial
   have h46 : decide (((s.data.toList.getD j 0).toNat : Int) = 46) = false := h46
   rw [hc46] at h46
   rw [if_neg (of_decide_eq_false h46)] at hsc
   refine ⟨{ n := j }, ⟨rfl, hlt⟩, ?_⟩
   refine zae hl (fun _ => rfl) (fun _ _ => trivial) ?_
   rintro r rfl
   cases dv with
   | true =>
    refine ⟨{ n := j }, ⟨rfl, hlt⟩, ?_⟩
    refine zae hd (fun _ => rfl) (fun _ _ => trivial) ?_
    rintro r rfl
    rw [if_pos (show zht ((s.data.toList.getD j 0).toNat : Int) = true by rw [zht, hlv, hdv]; rfl)] at hsc
    refine ⟨(j + 1, false), ⟨hlt, hsc⟩, by simp only; omega, ?_⟩
    exact zaa [] rfl rfl rfl rfl (Nat.zero_le _) ⟨⟨_, rfl, rfl⟩, ⟨_, rfl, rfl⟩, ⟨_, rfl, oneI (za6 (by omega) (by omega))⟩, trivial⟩ trivial trivial
   | false =>
    refine ⟨{ n := j }, ⟨rfl, hlt⟩, ?_⟩
    refine zae hd (fun _ => rfl) (fun _ _ => trivial) ?_
    rintro r rfl
    refine ⟨{ n := j }, ⟨rfl, hlt⟩, ?_⟩
    refine zad (fun h95 => ?_) (fun h95 => ?_)
    ·have h95 : (!decide (((s.data.toList.getD j 0).toNat : Int) = 95)) = true := h95
     rw [if_neg (show ¬ zht ((s.data.toList.getD j 0).toNat : Int) = true by rw [zht, hlv, hdv]; intro h; rw [show decide (((s.data.toList.getD j 0).toNat : Int) = 95) = true from h] at h95; cases h95)] at hsc
     exact ⟨_, rfl, Told.val (by rw [hend _ (zj4 hsc)])⟩
    ·have h95 : (!decide (((s.data.toList.getD j 0).toNat : Int) = 95)) = false := h95
     rw [if_pos (show zht ((s.data.toList.getD j 0).toNat : Int) = true by rw [zht, hlv, hdv]; cases hq : decide (((s.data.toList.getD j 0).toNat : Int) = 95) with | true => rfl | false => rw [hq] at h95; cases h95)] at hsc
     refine ⟨(j + 1, false), ⟨hlt, hsc⟩, by simp only; omega, ?_⟩
     exact zaa [] rfl rfl rfl rfl (Nat.zero_le _) ⟨⟨_, rfl, rfl⟩, ⟨_, rfl, rfl⟩, ⟨_, rfl, oneI (za6 (by omega) (by omega))⟩, trivial⟩ trivial trivial
 | true =>
  rw [if_neg (show ¬ (b && !true) = true by cases b <;> decide)] at hsc
  cases b with
  | true =>
   refine ⟨{ n := j }, ⟨rfl, hlt⟩, ?_⟩
   refine zae hl (fun _ => rfl) (fun _ _ => trivial) ?_
   rintro r rfl
   refine ⟨{ n := j }, ⟨rfl, hlt⟩, ?_⟩
   refine zad (fun h46 => ?_) (fun h46 => ?_)
   ·have h46 : decide (((s.data.toList.getD j 0).toNat : Int) = 46) = true := h46
    rw [hc46] at h46
    rw [if_pos (of_decide_eq_true h46)] at hsc
    refine ⟨(j + 1, true), ⟨hlt, hsc⟩, by simp only; omega, ?_⟩
    exact zaa [] rfl rfl rfl rfl (Nat.zero_le _) ⟨⟨_, rfl, rfl⟩, ⟨_, rfl, rfl⟩, ⟨_, rfl, oneI (za6 (by omega) (by omega))⟩, trivial⟩ trivial trivial
   have h46 : decide (((s.data.toList.getD j 0).toNat : Int) = 46) = false := h46
   rw [hc46] at h46
   rw [if_neg (of_decide_eq_false h46)] at hsc
   refine ⟨{ n := j }, ⟨rfl, hlt⟩, ?_⟩
   refine zae hl (fun _ => rfl) (fun _ _ => trivial) ?_
   rintro r rfl
   rw [if_pos (zep hlv)] at hsc
   refine ⟨(j + 1, false), ⟨hlt, hsc⟩, by simp only; omega, ?_⟩
   exact zaa [] rfl rfl rfl rfl (Nat.zero_le _) ⟨⟨_, rfl, rfl⟩, ⟨_, rfl, rfl⟩, ⟨_, rfl, oneI (za6 (by omega) (by omega))⟩, trivial⟩ trivial trivial
  | false =>
   refine ⟨{ n := j }, ⟨rfl, hlt⟩, ?_⟩
   refine zad (fun h46 => ?_) (fun h46 => ?_)
   ·have h46 : decide (((s.data.toList.getD j 0).toNat : Int) = 46) = true := h46
    rw [hc46] at h46
    rw [if_pos (of_decide_eq_true h46)] at hsc
    refine ⟨(j + 1, true), ⟨hlt, hsc⟩, by simp only; omega, ?_⟩
    exact zaa [] rfl rfl rfl rfl (Nat.zero_le _) ⟨⟨_, rfl, rfl⟩, ⟨_, rfl, rfl⟩, ⟨_, rfl, oneI (za6 (by omega) (by omega))⟩, trivial⟩ trivial trivial
   have h46 : decide (((s.data.toList.getD j 0).toNat : Int) = 46) = false := h46
   rw [hc46] at h46
   rw [if_neg (of_decide_eq_false h46)] at hsc
   refine ⟨{ n := j }, ⟨rfl, hlt⟩, ?_⟩
   refine zae hl (fun _ => rfl) (fun _ _ => trivial) ?_
   rintro r rfl
   rw [if_pos (zep hlv)] at hsc
   refine ⟨(j + 1, false), ⟨hlt, hsc⟩, by simp only; omega, ?_⟩
   exact zaa [] rfl rfl rfl rfl (Nat.zero_le _) ⟨⟨_, rfl, rfl⟩, ⟨_, rfl, rfl⟩, ⟨_, rfl, oneI (za6 (by omega) (by omega))⟩, trivial⟩ trivial trivial
end Go.Proofs.YtmkpiekbpakigaaDoor
end
section
set_option linter.unusedVariables false
set_option linter.unusedSimpArgs false
namespace Go.Proofs.YtmkpiekbpakigaaDoor
open Go.RowKit Go.Proofs.Base Go.Proofs.Sym
theorem Lv.right_all {l : Lv} (h0 : 0 <= l.b) (h1 : l.b <= 100) (h : ∀ i, i < 4 -> -1 <= l.p i /\ l.p i <= l.b) : l.right = true := by
 unfold Lv.right
 exact decide_eq_true ⟨h 0 (by decide), h 1 (by decide), h 2 (by decide), h 3 (by decide), h0, h1⟩
theorem Lv.right_no {l : Lv} {i : Nat} (hi : i < 4) (h : ¬ (-1 <= l.p i /\ l.p i <= l.b)) : l.right = false := by
 unfold Lv.right
 refine decide_eq_false fun ⟨g0, g1, g2, g3, _⟩ => h ?_
 match i, hi with
 | 0, _ => exact g0
 | 1, _ => exact g1
 | 2, _ => exact g2
 | 3, _ => exact g3
theorem Lv.right_nob {l : Lv} (h : ¬ (0 <= l.b /\ l.b <= 100)) : l.right = false := by
 unfold Lv.right
 exact decide_eq_false fun ⟨_, _, _, _, g⟩ => h g
set_option maxHeartbeats 2000000 in
theorem zno (l : Lv) : PCall Tryd.prog 133 [l.val] (fun _ => True) (fun r => r = .bool l.right) (fun _ _ => True) := by
 have hall := @Lv.right_all l
 have hno := fun i => @Lv.right_no l i
 have hnob := @Lv.right_nob l
 obtain ⟨R, hR⟩ : ∃ R, l.right = R := ⟨_, rfl⟩
 rw [hR] at hall hno hnob ⊢
 clear hR
 obtain ⟨b, p0, p1, p2, p3⟩ := l
 have hall : 0 <= b -> b <= 100 -> (∀ i, i < 4 -> -1 <= (Lv.mk b p0 p1 p2 p3).p i /\ (Lv.mk b p0 p1 p2 p3).p i <= b) -> R = true := hall
 have hno : ∀ i, i < 4 -> ¬ (-1 <= (Lv.mk b p0 p1 p2 p3).p i /\ (Lv.mk b p0 p1 p2 p3).p i <= b) -> R = false := fun i h1 h2 => hno i h1 h2
 have hnob : ¬ (0 <= b /\ b <= 100) -> R = false := hnob
 refine zaq zab 37 [.tmp 2] Tryd.func133 rfl rfl (by kernel_rfl) rfl _ (leB rfl) Up.true (fun _ => Up.true) ?_
 refine zaf zab [6] _ _ _ ?_
 refine zad (fun h1 => ?_) (fun h1 => ?_)
 ·have h1 : decide (b < 0) = true := h1
  have h1 := of_decide_eq_true h1
  exact ⟨_, rfl, Told.val (by rw [hnob (by omega)])⟩
 have h1 : decide (b < 0) = false := h1
 have h1 := of_decide_eq_false h1
 refine zad (fun h2 => ?_) (fun h2 => ?_)
 ·have h2 : decide (100 < b) = true := h2
  have h2 := of_decide_eq_true h2
  exact ⟨_, rfl, Told.val (by rw [hnob (by omega)])⟩
 have h2 : decide (100 < b) = false := h2
 have h2 := of_decide_eq_false h2
 refine ⟨⟨Nat, fun j => j <= 4 /\ ∀ i, i < j -> -1 <= (Lv.mk b p0 p1 p2 p3).p i /\ (Lv.mk b p0 p1 p2 p3).p i <= b,
  fun j => { s := [(1, .one (.p 0 0)), (3, .one (.v (.int .i64 (j : Int))))], m := [(0, .cells 24 [.v (.int .i64 b), .v (.int .i64 p0), .v (.int .i64 p1), .v (.int .i64 p2), .v (.int .i64 p3)])], k := 1, f := [] },
  fun j => 4 - j, ⟨0, ⟨Nat.zero_le _, fun i hi => absurd hi (Nat.not_lt_zero _)⟩, ?_⟩, ?_⟩⟩
 ·exact zaa [(0, .blk 0)] rfl rfl rfl rfl (leB rfl) (rs rfl rfl) (rm rfl rfl) trivial
 rintro j ⟨hj, hok⟩
 refine zad (fun hlt => ?_) (fun hge => ?_)
 rotate_left
 ·have hge : 4 <= j := by
   have h : decide ((j : Int) < 4) = false := hge
   have := of_decide_eq_false h
   omega
  exact ⟨_, rfl, Told.val (by rw [hall (by omega) (by omega) (fun i hi => hok i (by omega))])⟩
 have hlt : j < 4 := by
  have h : decide ((j : Int) < 4) = true := hlt
  have := of_decide_eq_true h
  omega
 match j, hlt, hok with
 | 0, _, hok =>
  obtain ⟨c1, e1⟩ : ∃ c, decide (p0 < -1) = c := ⟨_, rfl⟩
  obtain ⟨c2, e2⟩ : ∃ c, decide (100 < p0) = c := ⟨_, rfl⟩
  obtain ⟨c3, e3⟩ : ∃ c, decide (b < p0) = c := ⟨_, rfl⟩
  refine zaf zab [] _ _ _ ?_
  cases c1 with
  | true =>
   refine .inl ⟨21, [0, 0, 3, 7, 15, 31, 63, 63, 255, 511, 1023, 2047, 4095, 8191, 8191, 32767, 65535, 8191, 139263, 524287, 1048575], fun vs i => match i with
    | 2 => { c := { n := 0 } }
    | 4 => { b := some true }
    | _ => {}, by kernel_rfl, rfl, by kernel_rfl, by kernel_rfl, by kernel_rfl, by decide, fun vals => ?_⟩
   refine ⟨fun _ => ⟨rfl, (show 0 < 4 by decide)⟩, ?_⟩
   refine ⟨fun _ => e1, ?_⟩
   intro _
   have h := of_decide_eq_true e1
   have hq : (Lv.mk b p0 p1 p2 p3).p 0 = p0 := rfl
   exact ⟨_, rfl, Told.val (by rw [hno 0 (by decide) (by rw [hq]; omega)])⟩
  | false =>
  cases c2 with
  | true =>
   refine .inl ⟨21, [0, 0, 3, 7, 15, 31, 63, 63, 255, 511, 1023, 2047, 4095, 8191, 8191, 32767, 65535, 8191, 139263, 524287, 1048575], fun vs i => match i with
    | 2 => { c := { n := 0 } }
    | 4 => { b := some false }
    | 8 => { c := { n := 0 } }
    | 10 => { b := some true }
    | _ => {}, by kernel_rfl, rfl, by kernel_rfl, by kernel_rfl, by kernel_rfl, by decide, fun vals => ?_⟩
   refine ⟨fun _ => ⟨rfl, (show 0 < 4 by decide)⟩, ?_⟩
   refine ⟨fun _ => e1, ?_⟩
   refine ⟨fun _ => ⟨rfl, (show 0 < 4 by decide)⟩, ?_⟩
   refine ⟨fun _ => e2, ?_⟩
   intro _
   have h := of_decide_eq_true e2
   have hq : (Lv.mk b p0 p1 p2 p3).p 0 = p0 := rfl
   exact ⟨_, rfl, Told.val (by rw [hno 0 (by decide) (by rw [hq]; omega)])⟩
  | false =>
  cases c3 with
  | true =>
   refine .inl ⟨21, [0, 0, 3, 7, 15, 31, 63, 63, 255, 511, 1023, 2047, 4095, 8191, 8191, 32767, 65535, 8191, 139263, 524287, 1048575], fun vs i => match i with
    | 2 => { c := { n := 0 } }
    | 4 => { b := some false }
    | 8 => { c := { n := 0 } }
    | 10 => { b := some false }
    | 15 => { c := { n := 0 } }
    | 19 => { b := some true }
    | _ => {}, by kernel_rfl, rfl, by kernel_rfl, by kernel_rfl, by kernel_rfl, by decide, fun vals => ?_⟩
   refine ⟨fun _ => ⟨rfl, (show 0 < 4 by decide)⟩, ?_⟩
   refine ⟨fun _ => e1, ?_⟩
   refine ⟨fun _ => ⟨rfl, (show 0 < 4 by decide)⟩, ?_⟩
   refine ⟨fun _ => e2, ?_⟩
   refine ⟨fun _ => ⟨rfl, (show 0 < 4 by decide)⟩, ?_⟩
   refine ⟨fun _ => e3, ?_⟩
   intro _
   have h := of_decide_eq_true e3
   have hq : (Lv.mk b p0 p1 p2 p3).p 0 = p0 := rfl
   exact ⟨_, rfl, Told.val (by rw [hno 0 (by decide) (by rw [hq]; omega)])⟩
  | false =>
   refine .inl ⟨21, [0, 0, 3, 7, 15, 31, 63, 63, 255, 511, 1023, 2047, 4095, 8191, 8191, 32767, 65535, 8191, 139263, 524287, 1048575], fun vs i => match i with
    | 2 => { c := { n := 0 } }
    | 4 => { b := some false }
    | 8 => { c := { n := 0 } }
    | 10 => { b := some false }
    | 15 => { c := { n := 0 } }
    | 19 => { b := some false }
    | _ => {}, by kernel_rfl, rfl, by kernel_rfl, by kernel_rfl, by kernel_rfl, by decide, fun vals => ?_⟩
   refine ⟨fun _ => ⟨rfl, (show 0 < 4 by decide)⟩, ?_⟩
   refine ⟨fun _ => e1, ?_⟩
   refine ⟨fun _ => ⟨rfl, (show 0 < 4 by decide)⟩, ?_⟩
   refine ⟨fun _ => e2, ?_⟩
   refine ⟨fun _ => ⟨rfl, (show 0 < 4 by decide)⟩, ?_⟩
   refine ⟨fun _ => e3, ?_⟩
   intro _
   have h1' := of_decide_eq_false e1
   have h3' := of_decide_eq_false e3
   have hq : (Lv.mk b p0 p1 p2 p3).p 0 = p0 := rfl
   refine ⟨1, ⟨by decide, fun i hi => ?_⟩, by decide, ?_⟩
   ·by_cases hij : i = 0
    ·subst hij
     rw [hq]
     omega
    ·exact hok i (by omega)
   ·exact zaa [(0, .blk 0)] rfl rfl rfl rfl (leB rfl) (rs rfl rfl) (rm rfl rfl) trivial
 | 1, _, hok =>
  obtain ⟨c1, e1⟩ : ∃ c, decide (p1 < -1) = c := ⟨_, rfl⟩
  obtain ⟨c2, e2⟩ : ∃ c, decide (100 < p1) = c := ⟨_, rfl⟩
  obtain ⟨c3, e3⟩ : ∃ c, decide (b < p1) = c := ⟨_, rfl⟩
  refine zaf zab [] _ _ _ ?_
  cases c1 with
  | true =>
   refine .inl ⟨21, [0, 0, 3, 7, 15, 31, 63, 63, 255, 511, 1023, 2047, 4095, 8191, 8191, 32767, 65535, 8191, 139263, 524287, 1048575], fun vs i => match i with
    | 2 => { c := { n := 1 } }
    | 4 => { b := some true }
    | _ => {}, by kernel_rfl, rfl, by kernel_rfl, by kernel_rfl, by kernel_rfl, by decide, fun vals => ?_⟩
   refine ⟨fun _ => ⟨rfl, (show 1 < 4 by decide)⟩, ?_⟩
   refine ⟨fun _ => e1, ?_⟩
   intro _
   have h := of_decide_eq_true e1
   have hq : (Lv.mk b p0 p1 p2 p3).p 1 = p1 := rfl
   exact ⟨_, rfl, Told.val (by rw [hno 1 (by decide) (by rw [hq]; omega)])⟩
  | false =>
  cases c2 with
  | true =>
   refine .inl ⟨21, [0, 0, 3, 7, 15, 31, 63, 63, 255, 511, 1023, 2047, 4095, 8191, 8191, 32767, 65535, 8191, 139263, 524287, 1048575], fun vs i => match i with
    | 2 => { c := { n := 1 } }
    | 4 => { b := some false }
    | 8 => { c := { n := 1 } }
    | 10 => { b := some true }
    | _ => {}, by kernel_rfl, rfl, by kernel_rfl, by kernel_rfl, by kernel_rfl, by decide, fun vals => ?_⟩
   refine ⟨fun _ => ⟨rfl, (show 1 < 4 by decide)⟩, ?_⟩
   refine ⟨fun _ => e1, ?_⟩
   refine ⟨fun _ => ⟨rfl, (show 1 < 4 by decide)⟩, ?_⟩
   refine ⟨fun _ => e2, ?_⟩
   intro _
   have h := of_decide_eq_true e2
   have hq : (Lv.mk b p0 p1 p2 p3).p 1 = p1 := rfl
   exact ⟨_, rfl, Told.val (by rw [hno 1 (by decide) (by rw [hq]; omega)])⟩
  | false =>
  cases c3 with
  | true =>
   refine .inl ⟨21, [0, 0, 3, 7, 15, 31, 63, 63, 255, 511, 1023, 2047, 4095, 8191, 8191, 32767, 65535, 8191, 139263, 524287, 1048575], fun vs i => match i with
    | 2 => { c := { n := 1 } }
    | 4 => { b := some false }
    | 8 => { c := { n := 1 } }
    | 10 => { b := some false }
    | 15 => { c := { n := 1 } }
    | 19 => { b := some true }
    | _ => {}, by kernel_rfl, rfl, by kernel_rfl, by kernel_rfl, by kernel_rfl, by decide, fun vals => ?_⟩
   refine ⟨fun _ => ⟨rfl, (show 1 < 4 by decide)⟩, ?_⟩
   refine ⟨fun _ => e1, ?_⟩
   refine ⟨fun _ => ⟨rfl, (show 1 < 4 by decide)⟩, ?_⟩
   refine ⟨fun _ => e2, ?_⟩
   refine ⟨fun _ => ⟨rfl, (show 1 < 4 by decide)⟩, ?_⟩
   refine ⟨fun _ => e3, ?_⟩
   intro _
   have h := of_decide_eq_true e3
   have hq : (Lv.mk b p0 p1 p2 p3).p 1 = p1 := rfl
   exact ⟨_, rfl, Told.val (by rw [hno 1 (by decide) (by rw [hq]; omega)])⟩
  | false =>
   refine .inl ⟨21, [0, 0, 3, 7, 15, 31, 63, 63, 255, 511, 1023, 2047, 4095, 8191, 8191, 32767, 65535, 8191, 139263, 524287, 1048575], fun vs i => match i with
    | 2 => { c := { n := 1 } }
    | 4 => { b := some false }
    | 8 => { c := { n := 1 } }
    | 10 => { b := some false }
    | 15 => { c := { n := 1 } }
    | 19 => { b := some false }
    | _ => {}, by kernel_rfl, rfl, by kernel_rfl, by kernel_rfl, by kernel_rfl, by decide, fun vals => ?_⟩
   refine ⟨fun _ => ⟨rfl, (show 1 < 4 by decide)⟩, ?_⟩
   refine ⟨fun _ => e1, ?_⟩
   refine ⟨fun _ => ⟨rfl, (show 1 < 4 by decide)⟩, ?_⟩
   refine ⟨fun _ => e2, ?_⟩
   refine ⟨fun _ => ⟨rfl, (show 1 < 4 by decide)⟩, ?_⟩
   refine ⟨fun _ => e3, ?_⟩
   intro _
   have h1' := of_decide_eq_false e1
   have h3' := of_decide_eq_false e3
   have hq : (Lv.mk b p0 p1 p2 p3).p 1 = p1 := rfl
   refine ⟨2, ⟨by decide, fun i hi => ?_⟩, by decide, ?_⟩
   ·by_cases hij : i = 1
    ·subst hij
     rw [hq]
     omega
    ·exact hok i (by omega)
   ·exact zaa [(0, .blk 0)] rfl rfl rfl rfl (leB rfl) (rs rfl rfl) (rm rfl rfl) trivial
 | 2, _, hok =>
  obtain ⟨c1, e1⟩ : ∃ c, decide (p2 < -1) = c := ⟨_, rfl⟩
  obtain ⟨c2, e2⟩ : ∃ c, decide (100 < p2) = c := ⟨_, rfl⟩
  obtain ⟨c3, e3⟩ : ∃ c, decide (b < p2) = c := ⟨_, rfl⟩
  refine zaf zab [] _ _ _ ?_
  cases c1 with
  | true =>
   refine .inl ⟨21, [0, 0, 3, 7, 15, 31, 63, 63, 255, 511, 1023, 2047, 4095, 8191, 8191, 32767, 65535, 8191, 139263, 524287, 1048575], fun vs i => match i with
    | 2 => { c := { n := 2 } }
    | 4 => { b := some true }
    | _ => {}, by kernel_rfl, rfl, by kernel_rfl, by kernel_rfl, by kernel_rfl, by decide, fun vals => ?_⟩
   refine ⟨fun _ => ⟨rfl, (show 2 < 4 by decide)⟩, ?_⟩
   refine ⟨fun _ => e1, ?_⟩
   intro _
   have h := of_decide_eq_true e1
   have hq : (Lv.mk b p0 p1 p2 p3).p 2 = p2 := rfl
   exact ⟨_, rfl, Told.val (by rw [hno 2 (by decide) (by rw [hq]; omega)])⟩
  | false =>
  cases c2 with
  | true =>
   refine .inl ⟨21, [0, 0, 3, 7, 15, 31, 63, 63, 255, 511, 1023, 2047, 4095, 8191, 8191, 32767, 65535, 8191, 139263, 524287, 1048575], fun vs i => match i with
    | 2 => { c := { n := 2 } }
    | 4 => { b := some false }
    | 8 => { c := { n := 2 } }
    | 10 => { b := some true }
    | _ => {}, by kernel_rfl, rfl, by kernel_rfl, by kernel_rfl, by kernel_rfl, by decide, fun vals => ?_⟩
   refine ⟨fun _ => ⟨rfl, (show 2 < 4 by decide)⟩, ?_⟩
   refine ⟨fun _ => e1, ?_⟩
   refine ⟨fun _ => ⟨rfl, (show 2 < 4 by decide)⟩, ?_⟩
   refine ⟨fun _ => e2, ?_⟩
   intro _
   have h := of_decide_eq_true e2
   have hq : (Lv.mk b p0 p1 p2 p3).p 2 = p2 := rfl
   exact ⟨_, rfl, Told.val (by rw [hno 2 (by decide) (by rw [hq]; omega)])⟩
  | false =>
  cases c3 with
  | true =>
   refine .inl ⟨21, [0, 0, 3, 7, 15, 31, 63, 63, 255, 511, 1023, 2047, 4095, 8191, 8191, 32767, 65535, 8191, 139263, 524287, 1048575], fun vs i => match i with
    | 2 => { c := { n := 2 } }
    | 4 => { b := some false }
    | 8 => { c := { n := 2 } }
    | 10 => { b := some false }
    | 15 => { c := { n := 2 } }
    | 19 => { b := some true }
    | _ => {}, by kernel_rfl, rfl, by kernel_rfl, by kernel_rfl, by kernel_rfl, by decide, fun vals => ?_⟩
   refine ⟨fun _ => ⟨rfl, (show 2 < 4 by decide)⟩, ?_⟩
   refine ⟨fun _ => e1, ?_⟩
   refine ⟨fun _ => ⟨rfl, (show 2 < 4 by decide)⟩, ?_⟩
   refine ⟨fun _ => e2, ?_⟩
   refine ⟨fun _ => ⟨rfl, (show 2 < 4 by decide)⟩, ?_⟩
   refine ⟨fun _ => e3, ?_⟩
   intro _
   have h := of_decide_eq_true e3
   have hq : (Lv.mk b p0 p1 p2 p3).p 2 = p2 := rfl
   exact ⟨_, rfl, Told.val (by rw [hno 2 (by decide) (by rw [hq]; omega)])⟩
  | false =>
   refine .inl ⟨21, [0, 0, 3, 7, 15, 31, 63, 63, 255, 511, 1023, 2047, 4095, 8191, 8191, 32767, 65535, 8191, 139263, 524287, 1048575], fun vs i => match i with
    | 2 => { c := { n := 2 } }
    | 4 => { b := some false }
    | 8 => { c := { n := 2 } }
    | 10 => { b := some false }
    | 15 => { c := { n := 2 } }
    | 19 => { b := some false }
    | _ => {}, by kernel_rfl, rfl, by kernel_rfl, by kernel_rfl, by kernel_rfl, by decide, fun vals => ?_⟩
   refine ⟨fun _ => ⟨rfl, (show 2 < 4 by decide)⟩, ?_⟩
   refine ⟨fun _ => e1, ?_⟩
   refine ⟨fun _ => ⟨rfl, (show 2 < 4 by decide)⟩, ?_⟩
   refine ⟨fun _ => e2, ?_⟩
   refine ⟨fun _ => ⟨rfl, (show 2 < 4 by decide)⟩, ?_⟩
   refine ⟨fun _ => e3, ?_⟩
   intro _
   have h1' := of_decide_eq_false e1
   have h3' := of_decide_eq_false e3
   have hq : (Lv.mk b p0 p1 p2 p3).p 2 = p2 := rfl
   refine ⟨3, ⟨by decide, fun i hi => ?_⟩, by decide, ?_⟩
   ·by_cases hij : i = 2
    ·subst hij
     rw [hq]
     omega
    ·exact hok i (by omega)
   ·exact zaa [(0, .blk 0)] rfl rfl rfl rfl (leB rfl) (rs rfl rfl) (rm rfl rfl) trivial
 | 3, _, hok =>
  obtain ⟨c1, e1⟩ : ∃ c, decide (p3 < -1) = c := ⟨_, rfl⟩
  obtain ⟨c2, e2⟩ : ∃ c, decide (100 < p3) = c := ⟨_, rfl⟩
  obtain ⟨c3, e3⟩ : ∃ c, decide (b < p3) = c := ⟨_, rfl⟩
  refine zaf zab [] _ _ _ ?_
  cases c1 with
  | true =>
   refine .inl ⟨21, [0, 0, 3, 7, 15, 31, 63, 63, 255, 511, 1023, 2047, 4095, 8191, 8191, 32767, 65535, 8191, 139263, 524287, 1048575], fun vs i => match i with
    | 2 => { c := { n := 3 } }
    | 4 => { b := some true }
    | _ => {}, by kernel_rfl, rfl, by kernel_rfl, by kernel_rfl, by kernel_rfl, by decide, fun vals => ?_⟩
   refine ⟨fun _ => ⟨rfl, (show 3 < 4 by decide)⟩, ?_⟩
   refine ⟨fun _ => e1, ?_⟩
   intro _
   have h := of_decide_eq_true e1
   have hq : (Lv.mk b p0 p1 p2 p3).p 3 = p3 := rfl
   exact ⟨_, rfl, Told.val (by rw [hno 3 (by decide) (by rw [hq]; omega)])⟩
  | false =>
  cases c2 with
  | true =>
   refine .inl ⟨21, [0, 0, 3, 7, 15, 31, 63, 63, 255, 511, 1023, 2047, 4095, 8191, 8191, 32767, 65535, 8191, 139263, 524287, 1048575], fun vs i => match i with
    | 2 => { c := { n := 3 } }
    | 4 => { b := some false }
    | 8 => { c := { n := 3 } }
    | 10 => { b := some true }
    | _ => {}, by kernel_rfl, rfl, by kernel_rfl, by kernel_rfl, by kernel_rfl, by decide, fun vals => ?_⟩
   refine ⟨fun _ => ⟨rfl, (show 3 < 4 by decide)⟩, ?_⟩
   refine ⟨fun _ => e1, ?_⟩
   refine ⟨fun _ => ⟨rfl, (show 3 < 4 by decide)⟩, ?_⟩
   refine ⟨fun _ => e2, ?_⟩
   intro _
   have h := of_decide_eq_true e2
   have hq : (Lv.mk b p0 p1 p2 p3).p 3 = p3 := rfl
   exact ⟨_, rfl, Told.val (by rw [hno 3 (by decide) (by rw [hq]; omega)])⟩
  | false =>
  cases c3 with
  | true =>
   refine .inl ⟨21, [0, 0, 3, 7, 15, 31, 63, 63, 255, 511, 1023, 2047, 4095, 8191, 8191, 32767, 65535, 8191, 139263, 524287, 1048575], fun vs i => match i with
    | 2 => { c := { n := 3 } }
    | 4 => { b := some false }
    | 8 => { c := { n := 3 } }
    | 10 => { b := some false }
    | 15 => { c := { n := 3 } }
    | 19 => { b := some true }
    | _ => {}, by kernel_rfl, rfl, by kernel_rfl, by kernel_rfl, by kernel_rfl, by decide, fun vals => ?_⟩
   refine ⟨fun _ => ⟨rfl, (show 3 < 4 by decide)⟩, ?_⟩
   refine ⟨fun _ => e1, ?_⟩
   refine ⟨fun _ => ⟨rfl, (show 3 < 4 by decide)⟩, ?_⟩
   refine ⟨fun _ => e2, ?_⟩
   refine ⟨fun _ => ⟨rfl, (show 3 < 4 by decide)⟩, ?_⟩
   refine ⟨fun _ => e3, ?_⟩
   intro _
   have h := of_decide_eq_true e3
   have hq : (Lv.mk b p0 p1 p2 p3).p 3 = p3 := rfl
   exact ⟨_, rfl, Told.val (by rw [hno 3 (by decide) (by rw [hq]; omega)])⟩
  | false =>
   refine .inl ⟨21, [0, 0, 3, 7, 15, 31, 63, 63, 255, 511, 1023, 2047, 4095, 8191, 8191, 32767, 65535, 8191, 139263, 524287, 1048575], fun vs i => match i with
    | 2 => { c := { n := 3 } }
    | 4 => { b := some false }
    | 8 => { c := { n := 3 } }
    | 10 => { b := some false }
    | 15 => { c := { n := 3 } }
    | 19 => { b := some false }
    | _ => {}, by kernel_rfl, rfl, by kernel_rfl, by kernel_rfl, by kernel_rfl, by decide, fun vals => ?_⟩
   refine ⟨fun _ => ⟨rfl, (show 3 < 4 by decide)⟩, ?_⟩
   refine ⟨fun _ => e1, ?_⟩
   refine ⟨fun _ => ⟨rfl, (show 3 < 4 by decide)⟩, ?_⟩
   refine ⟨fun _ => e2, ?_⟩
   refine ⟨fun _ => ⟨rfl, (show 3 < 4 by decide)⟩, ?_⟩
   refine ⟨fun _ => e3, ?_⟩
   intro _
   have h1' := of_decide_eq_false e1
   have h3' := of_decide_eq_false e3
   have hq : (Lv.mk b p0 p1 p2 p3).p 3 = p3 := rfl
   refine ⟨4, ⟨by decide, fun i hi => ?_⟩, by decide, ?_⟩
   ·by_cases hij : i = 3
    ·subst hij
     rw [hq]
     omega
    ·exact hok i (by omega)
   ·exact zaa [(0, .blk 0)] rfl rfl rfl rfl (leB rfl) (rs rfl rfl) (rm rfl rfl) trivial
end Go.Proofs.YtmkpiekbpakigaaDoor
end
section
set_option linter.unusedVariables false
set_option linter.unusedSimpArgs false
namespace Go.Proofs.YtmkpiekbpakigaaDoor
open Go.RowKit Go.Proofs.Base Go.Proofs.Sym
def widU (l : Lv) : Nat -> Int
 | 0 => 0
 | k + 1 => if 0 <= l.p k then ((k : Int) + 1) else widU l k
theorem zaaf (l : Lv) : widU l 4 = l.width := by
 obtain ⟨b, p0, p1, p2, p3⟩ := l
 simp only [widU, Lv.width, Lv.p]
 (repeat' split) <;> omega
set_option maxHeartbeats 2000000 in
theorem znp (l : Lv) : PCall Tryd.prog 134 [l.val] (fun _ => True) (fun r => r = .int .i64 l.width) (fun _ _ => True) := by
 have h4 := zaaf l
 have hst : ∀ k b, decide (0 <= l.p k) = b -> widU l (k + 1) = if b = true then ((k : Int) + 1) else widU l k := fun k b hb => by
  rw [widU]
  by_cases h : 0 <= l.p k
  ·rw [if_pos h, if_pos (by rw [<- hb, decide_eq_true h])]
  ·rw [if_neg h, if_neg (by rw [<- hb, decide_eq_false h]; decide)]
 have h0 : widU l 0 = 0 := rfl
 obtain ⟨W, hW⟩ : ∃ W, widU l = W := ⟨_, rfl⟩
 rw [hW] at h4 h0
 simp only [hW] at hst
 rw [<- h4]
 clear hW h4
 obtain ⟨b, p0, p1, p2, p3⟩ := l
 refine zaq zab 17 [.tmp 2] Tryd.func134 rfl rfl (by kernel_rfl) rfl _ (leB rfl) Up.true (fun _ => Up.true) ?_
 refine zaf zab [] _ _ _ ?_
 refine ⟨⟨Nat, fun j => j <= 4,
  fun j => { s := [(1, .one (.p 0 0)), (3, .one (.v (.int .i64 (W j)))), (4, .one (.v (.int .i64 (j : Int))))], m := [(0, .cells 24 [.v (.int .i64 b), .v (.int .i64 p0), .v (.int .i64 p1), .v (.int .i64 p2), .v (.int .i64 p3)])], k := 1, f := [] },
  fun j => 4 - j, ⟨0, Nat.zero_le _, ?_⟩, ?_⟩⟩
 ·exact zaa [(0, .blk 0)] rfl rfl rfl rfl (leB rfl) ⟨⟨_, rfl, rfl⟩, ⟨_, rfl, oneI h0.symm⟩, ⟨_, rfl, rfl⟩, trivial⟩ ⟨⟨_, rfl, rfl⟩, trivial⟩ trivial
 rintro j hj
 refine zad (fun hlt => ?_) (fun hge => ?_)
 rotate_left
 ·have hge : j = 4 := by
   have h : decide ((j : Int) < 4) = false := hge
   have := of_decide_eq_false h
   omega
  exact ⟨_, rfl, Told.val (by rw [hge])⟩
 have hlt : j < 4 := by
  have h : decide ((j : Int) < 4) = true := hlt
  have := of_decide_eq_true h
  omega
 match j, hlt with
 | 0, _ =>
  refine ⟨{ n := 0 }, ⟨rfl, (show 0 < 4 by decide)⟩, ?_⟩
  refine zad (fun h => ?_) (fun h => ?_)
  ·exact ⟨1, by decide, by decide, zaa [(0, .blk 0)] rfl rfl rfl rfl (leB rfl) ⟨⟨_, rfl, rfl⟩, ⟨_, rfl, oneI (hst 0 _ h).symm⟩, ⟨_, rfl, rfl⟩, trivial⟩ ⟨⟨_, rfl, rfl⟩, trivial⟩ trivial⟩
  ·exact ⟨1, by decide, by decide, zaa [(0, .blk 0)] rfl rfl rfl rfl (leB rfl) ⟨⟨_, rfl, rfl⟩, ⟨_, rfl, oneI (hst 0 _ h).symm⟩, ⟨_, rfl, rfl⟩, trivial⟩ ⟨⟨_, rfl, rfl⟩, trivial⟩ trivial⟩
 | 1, _ =>
  refine ⟨{ n := 1 }, ⟨rfl, (show 1 < 4 by decide)⟩, ?_⟩
  refine zad (fun h => ?_) (fun h => ?_)
  ·exact ⟨2, by decide, by decide, zaa [(0, .blk 0)] rfl rfl rfl rfl (leB rfl) ⟨⟨_, rfl, rfl⟩, ⟨_, rfl, oneI (hst 1 _ h).symm⟩, ⟨_, rfl, rfl⟩, trivial⟩ ⟨⟨_, rfl, rfl⟩, trivial⟩ trivial⟩
  ·exact ⟨2, by decide, by decide, zaa [(0, .blk 0)] rfl rfl rfl rfl (leB rfl) ⟨⟨_, rfl, rfl⟩, ⟨_, rfl, oneI (hst 1 _ h).symm⟩, ⟨_, rfl, rfl⟩, trivial⟩ ⟨⟨_, rfl, rfl⟩, trivial⟩ trivial⟩
 | 2, _ =>
  refine ⟨{ n := 2 }, ⟨rfl, (show 2 < 4 by decide)⟩, ?_⟩
  refine zad (fun h => ?_) (fun h => ?_)
  ·exact ⟨3, by decide, by decide, zaa [(0, .blk 0)] rfl rfl rfl rfl (leB rfl) ⟨⟨_, rfl, rfl⟩, ⟨_, rfl, oneI (hst 2 _ h).symm⟩, ⟨_, rfl, rfl⟩, trivial⟩ ⟨⟨_, rfl, rfl⟩, trivial⟩ trivial⟩
  ·exact ⟨3, by decide, by decide, zaa [(0, .blk 0)] rfl rfl rfl rfl (leB rfl) ⟨⟨_, rfl, rfl⟩, ⟨_, rfl, oneI (hst 2 _ h).symm⟩, ⟨_, rfl, rfl⟩, trivial⟩ ⟨⟨_, rfl, rfl⟩, trivial⟩ trivial⟩
 | 3, _ =>
  refine ⟨{ n := 3 }, ⟨rfl, (show 3 < 4 by decide)⟩, ?_⟩
  refine zad (fun h => ?_) (fun h => ?_)
  ·exact ⟨4, by decide, by decide, zaa [(0, .blk 0)] rfl rfl rfl rfl (leB rfl) ⟨⟨_, rfl, rfl⟩, ⟨_, rfl, oneI (hst 3 _ h).symm⟩, ⟨_, rfl, rfl⟩, trivial⟩ ⟨⟨_, rfl, rfl⟩, trivial⟩ trivial⟩
  ·exact ⟨4, by decide, by decide, zaa [(0, .blk 0)] rfl rfl rfl rfl (leB rfl) ⟨⟨_, rfl, rfl⟩, ⟨_, rfl, oneI (hst 3 _ h).symm⟩, ⟨_, rfl, rfl⟩, trivial⟩ ⟨⟨_, rfl, rfl⟩, trivial⟩ trivial⟩
def zmj (k : Int) : Int := if k = 3 then 1 else if k = 4 then -1 else 0
theorem zvz (k : Int) : PCall Tryd.prog 132 [.int .i64 k] (fun _ => True) (fun r => r = .tuple #[.int .i64 (zf3 k), .int .i64 (zmj k)]) (fun _ _ => True) := by
 refine zaq zab 17 [.tmp 2, .tmp 3] Tryd.func132 rfl rfl (by kernel_rfl) rfl _ (leB rfl) Up.true (fun _ => Up.true) ?_
 have fin : ∀ a l, zf3 k = a -> zmj k = l -> Value.tuple #[.int .i64 a, .int .i64 l] = .tuple #[.int .i64 (zf3 k), .int .i64 (zmj k)] := fun a l h1 h2 => by rw [h1, h2]
 refine zaf zab [] _ _ _ ?_
 refine zad (fun h3 => ?_) (fun h3 => ?_)
 ·have h3 : decide (k = 3) = true := h3
  have h3 := of_decide_eq_true h3
  exact ⟨_, rfl, ⟨fun _ _ _ _ _ => ⟨fin 0 (1) (by subst h3; rfl) (by subst h3; rfl), trivial⟩⟩⟩
 have h3 : decide (k = 3) = false := h3
 have h3 := of_decide_eq_false h3
 refine zad (fun h4 => ?_) (fun h4 => ?_)
 ·have h4 : decide (k = 4) = true := h4
  have h4 := of_decide_eq_true h4
  exact ⟨_, rfl, ⟨fun _ _ _ _ _ => ⟨fin 0 (-1) (by subst h4; rfl) (by subst h4; rfl), trivial⟩⟩⟩
 have h4 : decide (k = 4) = false := h4
 have h4 := of_decide_eq_false h4
 have hl : zmj k = 0 := by unfold zmj; rw [if_neg h3, if_neg h4]
 refine zad (fun h5 => ?_) (fun h5 => ?_)
 ·have h5 : decide (k = 5) = true := h5
  have h5 := of_decide_eq_true h5
  exact ⟨_, rfl, ⟨fun _ _ _ _ _ => ⟨fin 2 0 (by subst h5; rfl) hl, trivial⟩⟩⟩
 have h5 : decide (k = 5) = false := h5
 have h5 := of_decide_eq_false h5
 refine zad (fun h6 => ?_) (fun h6 => ?_)
 ·have h6 : decide (k = 6) = true := h6
  have h6 := of_decide_eq_true h6
  exact ⟨_, rfl, ⟨fun _ _ _ _ _ => ⟨fin 2 0 (by subst h6; rfl) hl, trivial⟩⟩⟩
 have h6 : decide (k = 6) = false := h6
 have h6 := of_decide_eq_false h6
 refine zad (fun h7 => ?_) (fun h7 => ?_)
 ·have h7 : decide (k = 7) = true := h7
  have h7 := of_decide_eq_true h7
  exact ⟨_, rfl, ⟨fun _ _ _ _ _ => ⟨fin 2 0 (by subst h7; rfl) hl, trivial⟩⟩⟩
 have h7 : decide (k = 7) = false := h7
 have h7 := of_decide_eq_false h7
 refine zad (fun h8 => ?_) (fun h8 => ?_)
 ·have h8 : decide (k = 8) = true := h8
  have h8 := of_decide_eq_true h8
  exact ⟨_, rfl, ⟨fun _ _ _ _ _ => ⟨fin 3 0 (by subst h8; rfl) hl, trivial⟩⟩⟩
 have h8 : decide (k = 8) = false := h8
 have h8 := of_decide_eq_false h8
 refine zad (fun h9 => ?_) (fun h9 => ?_)
 ·have h9 : decide (k = 9) = true := h9
  have h9 := of_decide_eq_true h9
  exact ⟨_, rfl, ⟨fun _ _ _ _ _ => ⟨fin 1 0 (by subst h9; rfl) hl, trivial⟩⟩⟩
 have h9 : decide (k = 9) = false := h9
 have h9 := of_decide_eq_false h9
 exact ⟨_, rfl, ⟨fun _ _ _ _ _ => ⟨fin 0 0 (by unfold zf3; simp [h5, h6, h7, h8, h9]) hl, trivial⟩⟩⟩
def znc (k a : Int) : Bool := ((decide (k = 6) || decide (k = 7)) && decide (a = 1)) || (decide (k = 8) && decide (a = 2))
theorem zm8 {k a : Int} (h0 : 0 <= a) : znc k a = decide (za9 k a = 1) := by
 unfold znc za9 zba
 rw [Bool.eq_iff_iff]
 simp only [Bool.or_eq_true, Bool.and_eq_true, decide_eq_true_eq]
 repeat' split
 all_goals omega
theorem zpo (k a : Int) : PCall Tryd.prog 122 [.int .i64 k, .int .i64 a] (fun _ => True) (fun r => r = .bool (znc k a)) (fun _ _ => True) := by
 refine zaq zab 23 [.tmp 4] Tryd.func122 rfl rfl (by kernel_rfl) rfl _ (leB rfl) Up.true (fun _ => Up.true) ?_
 have fin : ∀ b1 b2 b3 b4 b5, decide (k = 6) = b1 -> decide (k = 7) = b2 -> decide (a = 1) = b3 -> decide (k = 8) = b4 -> decide (a = 2) = b5 -> znc k a = (((b1 || b2) && b3) || (b4 && b5)) := fun b1 b2 b3 b4 b5 h1 h2 h3 h4 h5 => by rw [znc, h1, h2, h3, h4, h5]
 obtain ⟨c2, e2⟩ : ∃ b, decide (k = 7) = b := ⟨_, rfl⟩
 obtain ⟨c3, e3⟩ : ∃ b, decide (a = 1) = b := ⟨_, rfl⟩
 obtain ⟨c4, e4⟩ : ∃ b, decide (k = 8) = b := ⟨_, rfl⟩
 obtain ⟨c5, e5⟩ : ∃ b, decide (a = 2) = b := ⟨_, rfl⟩
 refine zaf zab [] _ _ _ ?_
 refine zad (fun h1 => ?_) (fun h1 => ?_)
 ·refine zad (fun h3 => ?_) (fun h3 => ?_)
  ·exact ⟨_, rfl, Told.val (by rw [fin _ _ _ _ _ h1 e2 h3 e4 e5]; cases c2 <;> cases c4 <;> cases c5 <;> rfl)⟩
  ·refine zad (fun h4 => ?_) (fun h4 => ?_)
   ·exact ⟨_, rfl, Told.val (by rw [fin _ _ _ _ _ h1 e2 h3 h4 rfl]; cases c2 <;> rfl)⟩
   ·exact ⟨_, rfl, Told.val (by rw [fin _ _ _ _ _ h1 e2 h3 h4 e5]; cases c2 <;> cases c5 <;> rfl)⟩
 ·refine zad (fun h2 => ?_) (fun h2 => ?_)
  ·refine zad (fun h3 => ?_) (fun h3 => ?_)
   ·exact ⟨_, rfl, Told.val (by rw [fin _ _ _ _ _ h1 h2 h3 e4 e5]; cases c4 <;> cases c5 <;> rfl)⟩
   ·refine zad (fun h4 => ?_) (fun h4 => ?_)
    ·exact ⟨_, rfl, Told.val (by rw [fin _ _ _ _ _ h1 h2 h3 h4 rfl]; rfl)⟩
    ·exact ⟨_, rfl, Told.val (by rw [fin _ _ _ _ _ h1 h2 h3 h4 e5]; cases c5 <;> rfl)⟩
  ·refine zad (fun h4 => ?_) (fun h4 => ?_)
   ·exact ⟨_, rfl, Told.val (by rw [fin _ _ _ _ _ h1 h2 e3 h4 rfl]; cases c3 <;> rfl)⟩
   ·exact ⟨_, rfl, Told.val (by rw [fin _ _ _ _ _ h1 h2 e3 h4 e5]; cases c3 <;> cases c5 <;> rfl)⟩
end Go.Proofs.YtmkpiekbpakigaaDoor
end
section
set_option linter.unusedVariables false
set_option linter.unusedSimpArgs false
namespace Go.Proofs.YtmkpiekbpakigaaDoor
open Go.RowKit Go.Proofs.Base Go.Proofs.Sym
theorem zqv (k n : Int) (s : ByteArray) (ls : List Lv) (len p v d ar lv : Int) (nm wb : Bool) (har : zf3 k = ar) (hlv : zmj k = lv) (hnm : (decide (k = 4) || decide (k = 9)) = nm) (hwb : zc6 s = wb) :
  zcu k n s ls len p v d = (!(((((decide (k < 1) || decide (9 < k)) || decide (200 < d)) || !decide (len = ar)) || (decide (0 <= lv) && !decide ((ls.length : Int) = lv))) || decide (4 < (ls.length : Int))) && (!ls.any (zbo p) && (!(((nm && !wb) || (!nm && !zfe s)) || decide (n < 0)) && !(((decide (k = 1) && decide (v <= n)) || (decide (k = 9) && decide (31 < n))) || ((!decide (k = 1) && !decide (k = 9)) && !decide (n = 0)))))) := by
 subst har hlv hnm
 unfold zcu zbl zbq
 rw [hwb]
 obtain ⟨e, he⟩ : ∃ e, zfe s = e := ⟨_, rfl⟩
 obtain ⟨y, hy⟩ : ∃ y, ls.any (zbo p) = y := ⟨_, rfl⟩
 obtain ⟨L, hL⟩ : ∃ L, ls.length = L := ⟨_, rfl⟩
 rw [he, hy, hL]
 clear he hy hL hwb
 by_cases hk : 1 <= k /\ k <= 9
 ·have hkk : k = 1 \/ k = 2 \/ k = 3 \/ k = 4 \/ k = 5 \/ k = 6 \/ k = 7 \/ k = 8 \/ k = 9 := by omega
  rw [Bool.eq_iff_iff]
  rcases hkk with rfl | rfl | rfl | rfl | rfl | rfl | rfl | rfl | rfl <;> cases e <;> cases y <;> cases wb <;> simp [zf3, zmj, zgo] <;> omega
 ·rw [Bool.eq_iff_iff]
  have h1 : (decide (k < 1) || decide (9 < k)) = true := by simp; omega
  rw [h1]
  simp
  omega
theorem oneB {x y : Bool} (h : x = y) : SV.one (SA.v (.bool x)) = SV.one (SA.v (.bool y)) := by rw [h]
set_option maxHeartbeats 4000000 in
theorem ztw (p v d : Int) (t : TT) : PCall Tryd.prog 96 [t.val, .int .i64 p, .int .i64 v, .int .i64 d] (fun w => TTIn w t) (fun r => r = .bool (allT p v d t.tm)) (fun _ _ => True) := by
 induction hsz : SizeOf.sizeOf t using Nat.strongRecOn generalizing t v d with
 | _ z ih =>
 obtain ⟨k, n, s, la, lc, ls, aa, ac, us⟩ := t
 subst hsz
 by_cases hal : us.length <= 9223372036854775807 /\ ls.length <= 9223372036854775807
 rotate_left
 ·refine ⟨zhf Tryd.func96 (by kernel_rfl) (by kernel_rfl), fun _ => Up.true, fun w H hH hp => ?_⟩
  have := hp.node
  have h1 := this.hac
  have h2 := this.ham
  have h3 := this.hlc
  have h4 := this.hlm
  simp only [maxLen] at h2 h4
  omega
 obtain ⟨hal, hll⟩ := hal
 have hspec : allT p v d (TT.mk k n s la lc ls aa ac us).tm = (zcu k n s ls us.length p v d && zci k p v d 0 (us.map TT.tm)) := by
  rw [zbt, allT, List.length_map]
 have hshape := zvz k
 have hword := zwy s
 obtain ⟨ar, har⟩ : ∃ x, zf3 k = x := ⟨_, rfl⟩
 obtain ⟨lv, hlv⟩ : ∃ x, zmj k = x := ⟨_, rfl⟩
 obtain ⟨nm, hnm⟩ : ∃ x, (decide (k = 4) || decide (k = 9)) = x := ⟨_, rfl⟩
 obtain ⟨wb, hwb⟩ : ∃ x, zc6 s = x := ⟨_, rfl⟩
 have hsplit := zqv k n s ls us.length p v d ar lv nm wb har hlv hnm hwb
 rw [har, hlv] at hshape
 rw [hwb] at hword
 obtain ⟨Z, hZ⟩ : ∃ Z, allT p v d (TT.mk k n s la lc ls aa ac us).tm = Z := ⟨_, rfl⟩
 obtain ⟨D, hD⟩ : ∃ D, zcu k n s ls us.length p v d = D := ⟨_, rfl⟩
 rw [hZ, hD] at hspec
 rw [hD] at hsplit
 rw [hZ]
 clear hZ hD har hlv hwb
 have hno : D = false -> Z = false := fun h => by rw [hspec, h]; rfl
 refine zaq zab 169 [.tmp 8] Tryd.func96 rfl rfl (by kernel_rfl) rfl _ (leB rfl) (TTIn.upS _) (fun _ => Up.true) ?_
 refine zaf zab [2] _ _ _ ?_
 refine zae hshape (fun _ => rfl) (fun _ _ => trivial) ?_
 rintro r rfl
 refine zai.ent (st' := { s := [(9, .one (.v (.int .i64 ar))), (10, .one (.v (.int .i64 lv))), (1, .one (.v (.int .i64 p))), (2, .one (.v (.int .i64 v))), (3, .one (.v (.int .i64 d))), (4, .one (.p 0 0))], m := [(0, .cells 41 ((TT.mk k n s la lc ls aa ac us).cells.map SA.v))], k := 1, f := [fun w => TTIn w (TT.mk k n s la lc ls aa ac us)] }) (zaa [(0, .blk 0)] rfl rfl rfl rfl (leB rfl) (rs rfl rfl) (rm rfl rfl) ⟨⟨TTIn.upS _, fun w h => h.2.1⟩, trivial⟩) ?_
 refine zai.seq (zai.seq (zai.parts ?_))
 refine zbn.step zab 9 (X := Bool) (fun b => b = (decide (k < 1) || decide (9 < k))) (fun b => { s := [(29, .one (.v (.bool b))), (9, .one (.v (.int .i64 ar))), (10, .one (.v (.int .i64 lv))), (1, .one (.v (.int .i64 p))), (2, .one (.v (.int .i64 v))), (3, .one (.v (.int .i64 d))), (4, .one (.p 0 0))], m := [(0, .cells 41 ((TT.mk k n s la lc ls aa ac us).cells.map SA.v))], k := 1, f := [fun w => TTIn w (TT.mk k n s la lc ls aa ac us)] }) ?_ (fun b0 hb0 => ?_)
 ·refine zad (fun h => ?_) (fun h => ?_)
  ·have h : decide (k < 1) = true := h
   exact ⟨true, by rw [h]; rfl, zaa [(0, .blk 0)] rfl rfl rfl rfl (leB rfl) (rs rfl rfl) (rm rfl rfl) ⟨⟨TTIn.upS _, fun w h => h.1⟩, trivial⟩⟩
  ·have h : decide (k < 1) = false := h
   exact ⟨decide (9 < k), by rw [h]; rfl, zaa [(0, .blk 0)] rfl rfl rfl rfl (leB rfl) (rs rfl rfl) (rm rfl rfl) ⟨⟨TTIn.upS _, fun w h => h.1⟩, trivial⟩⟩
 refine zbn.step zab 4 (X := Bool) (fun b => b = ((decide (k < 1) || decide (9 < k)) || decide (200 < d))) (fun b => { s := [(33, .one (.v (.bool b))), (9, .one (.v (.int .i64 ar))), (10, .one (.v (.int .i64 lv))), (1, .one (.v (.int .i64 p))), (2, .one (.v (.int .i64 v))), (3, .one (.v (.int .i64 d))), (4, .one (.p 0 0))], m := [(0, .cells 41 ((TT.mk k n s la lc ls aa ac us).cells.map SA.v))], k := 1, f := [fun w => TTIn w (TT.mk k n s la lc ls aa ac us)] }) ?_ (fun b1 hb1 => ?_)
 ·refine zad (fun h => ?_) (fun h => ?_)
  ·exact ⟨true, by rw [<- hb0, h]; rfl, zaa [(0, .blk 0)] rfl rfl rfl rfl (leB rfl) (rs rfl rfl) (rm rfl rfl) ⟨⟨TTIn.upS _, fun w h => h.1⟩, trivial⟩⟩
  ·exact ⟨decide (200 < d), by rw [<- hb0, h]; rfl, zaa [(0, .blk 0)] rfl rfl rfl rfl (leB rfl) (rs rfl rfl) (rm rfl rfl) ⟨⟨TTIn.upS _, fun w h => h.1⟩, trivial⟩⟩
 refine zbn.step zab 7 (X := Bool) (fun b => b = (((decide (k < 1) || decide (9 < k)) || decide (200 < d)) || !decide ((us.length : Int) = ar))) (fun b => { s := [(40, .one (.v (.bool b))), (9, .one (.v (.int .i64 ar))), (10, .one (.v (.int .i64 lv))), (1, .one (.v (.int .i64 p))), (2, .one (.v (.int .i64 v))), (3, .one (.v (.int .i64 d))), (4, .one (.p 0 0))], m := [(0, .cells 41 ((TT.mk k n s la lc ls aa ac us).cells.map SA.v))], k := 1, f := [fun w => TTIn w (TT.mk k n s la lc ls aa ac us)] }) ?_ (fun b2 hb2 => ?_)
 ·refine zad (fun h => ?_) (fun h => ?_)
  ·exact ⟨true, by rw [<- hb1, h]; rfl, zaa [(0, .blk 0)] rfl rfl rfl rfl (leB rfl) (rs rfl rfl) (rm rfl rfl) ⟨⟨TTIn.upS _, fun w h => h.1⟩, trivial⟩⟩
  ·exact ⟨!decide ((us.length : Int) = ar), by rw [<- hb1, h]; rfl, zaa [(0, .blk 0)] rfl rfl rfl rfl (leB rfl) (rs rfl rfl) (rm rfl rfl) ⟨⟨TTIn.upS _, fun w h => h.1⟩, trivial⟩⟩
 refine zbn.step zab 11 (X := Bool) (fun b => b = ((((decide (k < 1) || decide (9 < k)) || decide (200 < d)) || !decide ((us.length : Int) = ar)) || (decide (0 <= lv) && !decide ((ls.length : Int) = lv)))) (fun b => { s := [(51, .one (.v (.bool b))), (9, .one (.v (.int .i64 ar))), (10, .one (.v (.int .i64 lv))), (1, .one (.v (.int .i64 p))), (2, .one (.v (.int .i64 v))), (3, .one (.v (.int .i64 d))), (4, .one (.p 0 0))], m := [(0, .cells 41 ((TT.mk k n s la lc ls aa ac us).cells.map SA.v))], k := 1, f := [fun w => TTIn w (TT.mk k n s la lc ls aa ac us)] }) ?_ (fun b3 hb3 => ?_)
 ·refine zad (fun h => ?_) (fun h => ?_)
  ·exact ⟨true, by rw [<- hb2, h]; rfl, zaa [(0, .blk 0)] rfl rfl rfl rfl (leB rfl) (rs rfl rfl) (rm rfl rfl) ⟨⟨TTIn.upS _, fun w h => h.1⟩, trivial⟩⟩
  ·refine zad (fun h2 => ?_) (fun h2 => ?_)
   ·have h2 : decide (0 <= lv) = true := h2
    exact ⟨!decide ((ls.length : Int) = lv), by rw [<- hb2, h, h2]; rfl, zaa [(0, .blk 0)] rfl rfl rfl rfl (leB rfl) (rs rfl rfl) (rm rfl rfl) ⟨⟨TTIn.upS _, fun w h => h.1⟩, trivial⟩⟩
   ·have h2 : decide (0 <= lv) = false := h2
    exact ⟨false, by rw [<- hb2, h, h2]; rfl, zaa [(0, .blk 0)] rfl rfl rfl rfl (leB rfl) (rs rfl rfl) (rm rfl rfl) ⟨⟨TTIn.upS _, fun w h => h.1⟩, trivial⟩⟩
 refine zbn.step zab 5 (X := Bool) (fun b => b = (((((decide (k < 1) || decide (9 < k)) || decide (200 < d)) || !decide ((us.length : Int) = ar)) || (decide (0 <= lv) && !decide ((ls.length : Int) = lv))) || decide (4 < (ls.length : Int)))) (fun b => { s := [(56, .one (.v (.bool b))), (9, .one (.v (.int .i64 ar))), (10, .one (.v (.int .i64 lv))), (1, .one (.v (.int .i64 p))), (2, .one (.v (.int .i64 v))), (3, .one (.v (.int .i64 d))), (4, .one (.p 0 0))], m := [(0, .cells 41 ((TT.mk k n s la lc ls aa ac us).cells.map SA.v))], k := 1, f := [fun w => TTIn w (TT.mk k n s la lc ls aa ac us)] }) ?_ (fun b4 hb4 => ?_)
 ·refine zad (fun h => ?_) (fun h => ?_)
  ·exact ⟨true, by rw [<- hb3, h]; rfl, zaa [(0, .blk 0)] rfl rfl rfl rfl (leB rfl) (rs rfl rfl) (rm rfl rfl) ⟨⟨TTIn.upS _, fun w h => h.1⟩, trivial⟩⟩
  ·exact ⟨decide (4 < (ls.length : Int)), by rw [<- hb3, h]; rfl, zaa [(0, .blk 0)] rfl rfl rfl rfl (leB rfl) (rs rfl rfl) (rm rfl rfl) ⟨⟨TTIn.upS _, fun w h => h.1⟩, trivial⟩⟩
 refine zbn.done ?_
 rw [<- hb4] at hsplit
 refine zaf zab [4] _ _ _ ?_
 refine zad (fun h => ?_) (fun h => ?_)
 ·have h : b4 = true := h
  rw [h] at hsplit
  exact ⟨_, rfl, Told.val (by rw [hno hsplit])⟩
 have h : b4 = false := h
 rw [h] at hsplit
 clear h hb0 hb1 hb2 hb3 hb4 b0 b1 b2 b3
 refine zai.ent (st' := { s := [(1, .one (.v (.int .i64 p))), (2, .one (.v (.int .i64 v))), (3, .one (.v (.int .i64 d))), (4, .one (.p 0 0))], m := [(0, .cells 41 ((TT.mk k n s la lc ls aa ac us).cells.map SA.v))], k := 1, f := [fun w => TTIn w (TT.mk k n s la lc ls aa ac us)] }) (zaa [(0, .blk 0)] rfl rfl rfl rfl (leB rfl) (rs rfl rfl) (rm rfl rfl) ⟨⟨TTIn.upS _, fun w h => h.1⟩, trivial⟩) ?_
 refine zai.cutX (X := Unit) (fun _ => ls.any (zbo p) = false) (fun _ => { s := [(1, .one (.v (.int .i64 p))), (2, .one (.v (.int .i64 v))), (3, .one (.v (.int .i64 d))), (4, .one (.p 0 0))], m := [(0, .cells 41 ((TT.mk k n s la lc ls aa ac us).cells.map SA.v))], k := 1, f := [fun w => TTIn w (TT.mk k n s la lc ls aa ac us)] }) ?_ (fun _ hany => ?_)
 ·refine zaf zab [] _ _ _ ?_
  refine ⟨⟨Nat, fun j => j <= ls.length /\ (ls.take j).any (zbo p) = false, fun j => { s := [(11, .one (.v (.int .i64 (j : Int)))), (1, .one (.v (.int .i64 p))), (2, .one (.v (.int .i64 v))), (3, .one (.v (.int .i64 d))), (4, .one (.p 0 0))], m := [(0, .cells 41 ((TT.mk k n s la lc ls aa ac us).cells.map SA.v))], k := 1, f := [fun w => TTIn w (TT.mk k n s la lc ls aa ac us)] }, fun j => ls.length - j, ⟨0, ⟨Nat.zero_le _, rfl⟩, zaa [(0, .blk 0)] rfl rfl rfl rfl (leB rfl) (rs rfl rfl) (rm rfl rfl) ⟨⟨TTIn.upS _, fun w h => h.1⟩, trivial⟩⟩, ?_⟩⟩
  rintro j ⟨hj, hA⟩
  refine zad (fun hlt => ?_) (fun hge => ?_)
  rotate_left
  ·have hge : ls.length <= j := by
    have h : decide ((j : Int) < (ls.length : Int)) = false := hge
    have := of_decide_eq_false h
    omega
   rw [List.take_of_length_le hge] at hA
   exact ⟨(), hA, zaa [(0, .blk 0)] rfl rfl rfl rfl (leB rfl) (rs rfl rfl) (rm rfl rfl) ⟨⟨TTIn.upS _, fun w h => h.1⟩, trivial⟩⟩
  have hlt : j < ls.length := by
   have h : decide ((j : Int) < (ls.length : Int)) = true := hlt
   have := of_decide_eq_true h
   omega
  obtain ⟨l, hl⟩ : ∃ l, ls[j]? = some l := ⟨_, List.getElem?_eq_getElem hlt⟩
  have hr := zno l
  have hw := znp l
  have hwr : zbo p l = (!l.right || decide (p < l.width)) := rfl
  have hstep : (ls.take (j + 1)).any (zbo p) = zbo p l := by
   rw [List.take_add_one, hl, List.any_append, hA]
   simp
  have hbad : zbo p l = true -> Z = false := fun h => hno (by
   rw [hsplit, show ls.any (zbo p) = true from List.any_eq_true.2 ⟨l, List.mem_of_getElem? hl, h⟩]
   rfl)
  obtain ⟨r1, hr1⟩ : ∃ r, l.right = r := ⟨_, rfl⟩
  obtain ⟨w1, hw1⟩ : ∃ r, l.width = r := ⟨_, rfl⟩
  rw [hr1] at hr hwr
  rw [hw1] at hw hwr
  refine ⟨{ n := j }, ⟨rfl, hlt, fun w h => ?_⟩, ?_⟩
  ·obtain ⟨a, ha, _⟩ := zce h.1.node.hls hl
   rw [ha]; rfl
  refine ⟨{ cs := zbh l }, ⟨zcc l, rfl, fun w h => ?_⟩, ?_⟩
  ·obtain ⟨a, ha, hc⟩ := zce h.1.node.hls hl
   exact ⟨_, by rw [ha]; rfl, hc⟩
  refine zae hr (fun _ => rfl) (fun _ _ => trivial) ?_
  rintro r rfl
  cases r1 with
  | false => exact ⟨_, rfl, Told.val (by rw [hbad hwr])⟩
  | true =>
  refine ⟨{ n := j }, ⟨rfl, hlt, fun w h => ?_⟩, ?_⟩
  ·obtain ⟨a, ha, _⟩ := zce h.2.1.node.hls hl
   rw [ha]; rfl
  refine ⟨{ cs := zbh l }, ⟨zcc l, rfl, fun w h => ?_⟩, ?_⟩
  ·obtain ⟨a, ha, hc⟩ := zce h.2.1.node.hls hl
   exact ⟨_, by rw [ha]; rfl, hc⟩
  refine zae hw (fun _ => rfl) (fun _ _ => trivial) ?_
  rintro r rfl
  refine zad (fun h => ?_) (fun h => ?_)
  ·have h : decide (p < w1) = true := h
   rw [h] at hwr
   exact ⟨_, rfl, Told.val (by rw [hbad hwr])⟩
  ·have h : decide (p < w1) = false := h
   rw [h] at hwr
   exact ⟨j + 1, ⟨hlt, hstep.trans hwr⟩, by simp only; omega, zaa [(0, .blk 0)] rfl rfl rfl rfl (leB rfl) ⟨⟨_, rfl, oneI (za6 (by omega) (by omega))⟩, ⟨_, rfl, rfl⟩, ⟨_, rfl, rfl⟩, ⟨_, rfl, rfl⟩, ⟨_, rfl, rfl⟩, trivial⟩ ⟨⟨_, rfl, rfl⟩, trivial⟩ ⟨⟨TTIn.upS _, fun w h => h.2.2.1⟩, trivial⟩⟩
 rw [hany] at hsplit
 refine zai.cut ({ s := [(12, .one (.v (.bool nm))), (1, .one (.v (.int .i64 p))), (2, .one (.v (.int .i64 v))), (3, .one (.v (.int .i64 d))), (4, .one (.p 0 0))], m := [(0, .cells 41 ((TT.mk k n s la lc ls aa ac us).cells.map SA.v))], k := 1, f := [fun w => TTIn w (TT.mk k n s la lc ls aa ac us)] }) ?_ ?_
 ·refine zaf zab [] _ _ _ ?_
  refine zad (fun h => ?_) (fun h => ?_)
  ·have h : decide (k = 4) = true := h
   exact zaa [(0, .blk 0)] rfl rfl rfl rfl (leB rfl) ⟨⟨_, rfl, oneB (by rw [<- hnm, h]; rfl)⟩, ⟨_, rfl, rfl⟩, ⟨_, rfl, rfl⟩, ⟨_, rfl, rfl⟩, ⟨_, rfl, rfl⟩, trivial⟩ ⟨⟨_, rfl, rfl⟩, trivial⟩ ⟨⟨TTIn.upS _, fun w h => h.1⟩, trivial⟩
  ·have h : decide (k = 4) = false := h
   exact zaa [(0, .blk 0)] rfl rfl rfl rfl (leB rfl) ⟨⟨_, rfl, oneB (by rw [<- hnm, h]; rfl)⟩, ⟨_, rfl, rfl⟩, ⟨_, rfl, rfl⟩, ⟨_, rfl, rfl⟩, ⟨_, rfl, rfl⟩, trivial⟩ ⟨⟨_, rfl, rfl⟩, trivial⟩ ⟨⟨TTIn.upS _, fun w h => h.1⟩, trivial⟩
 refine zai.seq (zai.seq (zai.parts ?_))
 refine zbn.step zab 8 (X := Bool) (fun b => b = (nm && !wb)) (fun b => { s := [(96, .one (.v (.bool b))), (12, .one (.v (.bool nm))), (1, .one (.v (.int .i64 p))), (2, .one (.v (.int .i64 v))), (3, .one (.v (.int .i64 d))), (4, .one (.p 0 0))], m := [(0, .cells 41 ((TT.mk k n s la lc ls aa ac us).cells.map SA.v))], k := 1, f := [fun w => TTIn w (TT.mk k n s la lc ls aa ac us)] }) ?_ (fun b0 hb0 => ?_)
 ·refine zad (fun h => ?_) (fun h => ?_)
  ·have h : nm = true := h
   refine zae hword (fun _ => rfl) (fun _ _ => trivial) ?_
   rintro r rfl
   exact ⟨!wb, by rw [h]; rfl, zaa [(0, .blk 0)] rfl rfl rfl rfl (leB rfl) (rs rfl rfl) (rm rfl rfl) ⟨⟨TTIn.upS _, fun w h => h.2.1⟩, trivial⟩⟩
  ·have h : nm = false := h
   exact ⟨false, by rw [h]; rfl, zaa [(0, .blk 0)] rfl rfl rfl rfl (leB rfl) (rs rfl rfl) (rm rfl rfl) ⟨⟨TTIn.upS _, fun w h => h.1⟩, trivial⟩⟩
 refine zbn.step zab 9 (X := Bool) (fun b => b = ((nm && !wb) || (!nm && !zfe s))) (fun b => { s := [(105, .one (.v (.bool b))), (12, .one (.v (.bool nm))), (1, .one (.v (.int .i64 p))), (2, .one (.v (.int .i64 v))), (3, .one (.v (.int .i64 d))), (4, .one (.p 0 0))], m := [(0, .cells 41 ((TT.mk k n s la lc ls aa ac us).cells.map SA.v))], k := 1, f := [fun w => TTIn w (TT.mk k n s la lc ls aa ac us)] }) ?_ (fun b1 hb1 => ?_)
 ·refine zad (fun h => ?_) (fun h => ?_)
  ·exact ⟨true, by rw [<- hb0, h]; rfl, zaa [(0, .blk 0)] rfl rfl rfl rfl (leB rfl) (rs rfl rfl) (rm rfl rfl) ⟨⟨TTIn.upS _, fun w h => h.1⟩, trivial⟩⟩
  ·refine zad (fun h2 => ?_) (fun h2 => ?_)
   ·have h2 : (!nm) = true := h2
    exact ⟨!zfe s, by rw [<- hb0, h, h2]; rfl, zaa [(0, .blk 0)] rfl rfl rfl rfl (leB rfl) (rs rfl rfl) (rm rfl rfl) ⟨⟨TTIn.upS _, fun w h => h.1⟩, trivial⟩⟩
   ·have h2 : (!nm) = false := h2
    exact ⟨false, by rw [<- hb0, h, h2]; rfl, zaa [(0, .blk 0)] rfl rfl rfl rfl (leB rfl) (rs rfl rfl) (rm rfl rfl) ⟨⟨TTIn.upS _, fun w h => h.1⟩, trivial⟩⟩
 refine zbn.step zab 4 (X := Bool) (fun b => b = (((nm && !wb) || (!nm && !zfe s)) || decide (n < 0))) (fun b => { s := [(109, .one (.v (.bool b))), (12, .one (.v (.bool nm))), (1, .one (.v (.int .i64 p))), (2, .one (.v (.int .i64 v))), (3, .one (.v (.int .i64 d))), (4, .one (.p 0 0))], m := [(0, .cells 41 ((TT.mk k n s la lc ls aa ac us).cells.map SA.v))], k := 1, f := [fun w => TTIn w (TT.mk k n s la lc ls aa ac us)] }) ?_ (fun b2 hb2 => ?_)
 ·refine zad (fun h => ?_) (fun h => ?_)
  ·exact ⟨true, by rw [<- hb1, h]; rfl, zaa [(0, .blk 0)] rfl rfl rfl rfl (leB rfl) (rs rfl rfl) (rm rfl rfl) ⟨⟨TTIn.upS _, fun w h => h.1⟩, trivial⟩⟩
  ·exact ⟨decide (n < 0), by rw [<- hb1, h]; rfl, zaa [(0, .blk 0)] rfl rfl rfl rfl (leB rfl) (rs rfl rfl) (rm rfl rfl) ⟨⟨TTIn.upS _, fun w h => h.1⟩, trivial⟩⟩
 refine zbn.done ?_
 rw [<- hb2] at hsplit
 refine zaf zab [12] _ _ _ ?_
 refine zad (fun h => ?_) (fun h => ?_)
 ·have h : b2 = true := h
  rw [h] at hsplit
  exact ⟨_, rfl, Told.val (by rw [hno hsplit])⟩
 have h : b2 = false := h
 rw [h] at hsplit
 clear h hb0 hb1 hb2 b0 b1
 refine zai.ent (st' := { s := [(1, .one (.v (.int .i64 p))), (2, .one (.v (.int .i64 v))), (3, .one (.v (.int .i64 d))), (4, .one (.p 0 0))], m := [(0, .cells 41 ((TT.mk k n s la lc ls aa ac us).cells.map SA.v))], k := 1, f := [fun w => TTIn w (TT.mk k n s la lc ls aa ac us)] }) (zaa [(0, .blk 0)] rfl rfl rfl rfl (leB rfl) (rs rfl rfl) (rm rfl rfl) ⟨⟨TTIn.upS _, fun w h => h.1⟩, trivial⟩) ?_
 refine zai.seq (zai.seq (zai.parts ?_))
 refine zbn.step zab 10 (X := Bool) (fun b => b = (decide (k = 1) && decide (v <= n))) (fun b => { s := [(119, .one (.v (.bool b))), (1, .one (.v (.int .i64 p))), (2, .one (.v (.int .i64 v))), (3, .one (.v (.int .i64 d))), (4, .one (.p 0 0))], m := [(0, .cells 41 ((TT.mk k n s la lc ls aa ac us).cells.map SA.v))], k := 1, f := [fun w => TTIn w (TT.mk k n s la lc ls aa ac us)] }) ?_ (fun b0 hb0 => ?_)
 ·refine zad (fun h => ?_) (fun h => ?_)
  ·have h : decide (k = 1) = true := h
   exact ⟨decide (v <= n), by rw [h]; rfl, zaa [(0, .blk 0)] rfl rfl rfl rfl (leB rfl) (rs rfl rfl) (rm rfl rfl) ⟨⟨TTIn.upS _, fun w h => h.1⟩, trivial⟩⟩
  ·have h : decide (k = 1) = false := h
   exact ⟨false, by rw [h]; rfl, zaa [(0, .blk 0)] rfl rfl rfl rfl (leB rfl) (rs rfl rfl) (rm rfl rfl) ⟨⟨TTIn.upS _, fun w h => h.1⟩, trivial⟩⟩
 refine zbn.step zab 10 (X := Bool) (fun b => b = ((decide (k = 1) && decide (v <= n)) || (decide (k = 9) && decide (31 < n)))) (fun b => { s := [(129, .one (.v (.bool b))), (1, .one (.v (.int .i64 p))), (2, .one (.v (.int .i64 v))), (3, .one (.v (.int .i64 d))), (4, .one (.p 0 0))], m := [(0, .cells 41 ((TT.mk k n s la lc ls aa ac us).cells.map SA.v))], k := 1, f := [fun w => TTIn w (TT.mk k n s la lc ls aa ac us)] }) ?_ (fun b1 hb1 => ?_)
 ·refine zad (fun h => ?_) (fun h => ?_)
  ·exact ⟨true, by rw [<- hb0, h]; rfl, zaa [(0, .blk 0)] rfl rfl rfl rfl (leB rfl) (rs rfl rfl) (rm rfl rfl) ⟨⟨TTIn.upS _, fun w h => h.1⟩, trivial⟩⟩
  ·refine zad (fun h2 => ?_) (fun h2 => ?_)
   ·have h2 : decide (k = 9) = true := h2
    exact ⟨decide (31 < n), by rw [<- hb0, h, h2]; rfl, zaa [(0, .blk 0)] rfl rfl rfl rfl (leB rfl) (rs rfl rfl) (rm rfl rfl) ⟨⟨TTIn.upS _, fun w h => h.1⟩, trivial⟩⟩
   ·have h2 : decide (k = 9) = false := h2
    exact ⟨false, by rw [<- hb0, h, h2]; rfl, zaa [(0, .blk 0)] rfl rfl rfl rfl (leB rfl) (rs rfl rfl) (rm rfl rfl) ⟨⟨TTIn.upS _, fun w h => h.1⟩, trivial⟩⟩
 refine zbn.step zab 14 (X := Bool) (fun b => b = (((decide (k = 1) && decide (v <= n)) || (decide (k = 9) && decide (31 < n))) || ((!decide (k = 1) && !decide (k = 9)) && !decide (n = 0)))) (fun b => { s := [(143, .one (.v (.bool b))), (1, .one (.v (.int .i64 p))), (2, .one (.v (.int .i64 v))), (3, .one (.v (.int .i64 d))), (4, .one (.p 0 0))], m := [(0, .cells 41 ((TT.mk k n s la lc ls aa ac us).cells.map SA.v))], k := 1, f := [fun w => TTIn w (TT.mk k n s la lc ls aa ac us)] }) ?_ (fun b2 hb2 => ?_)
 ·refine zad (fun h => ?_) (fun h => ?_)
  ·exact ⟨true, by rw [<- hb1, h]; rfl, zaa [(0, .blk 0)] rfl rfl rfl rfl (leB rfl) (rs rfl rfl) (rm rfl rfl) ⟨⟨TTIn.upS _, fun w h => h.1⟩, trivial⟩⟩
  ·refine zad (fun h2 => ?_) (fun h2 => ?_)
   ·have h2 : (!decide (k = 1)) = true := h2
    refine zad (fun h3 => ?_) (fun h3 => ?_)
    ·have h3 : (!decide (k = 9)) = true := h3
     exact ⟨!decide (n = 0), by rw [<- hb1, h, h2, h3]; rfl, zaa [(0, .blk 0)] rfl rfl rfl rfl (leB rfl) (rs rfl rfl) (rm rfl rfl) ⟨⟨TTIn.upS _, fun w h => h.1⟩, trivial⟩⟩
    ·have h3 : (!decide (k = 9)) = false := h3
     exact ⟨false, by rw [<- hb1, h, h2, h3]; rfl, zaa [(0, .blk 0)] rfl rfl rfl rfl (leB rfl) (rs rfl rfl) (rm rfl rfl) ⟨⟨TTIn.upS _, fun w h => h.1⟩, trivial⟩⟩
   ·have h2 : (!decide (k = 1)) = false := h2
    exact ⟨false, by rw [<- hb1, h, h2]; rfl, zaa [(0, .blk 0)] rfl rfl rfl rfl (leB rfl) (rs rfl rfl) (rm rfl rfl) ⟨⟨TTIn.upS _, fun w h => h.1⟩, trivial⟩⟩
 refine zbn.done ?_
 rw [<- hb2] at hsplit
 refine zaf zab [14] _ _ _ ?_
 refine zad (fun h => ?_) (fun h => ?_)
 ·have h : b2 = true := h
  rw [h] at hsplit
  exact ⟨_, rfl, Told.val (by rw [hno hsplit])⟩
 have h : b2 = false := h
 rw [h] at hsplit
 clear h hb0 hb1 hb2 b0 b1
 have hZ2 : zci k p v d 0 (us.map TT.tm) = Z := by rw [hspec, hsplit]; rfl
 refine zai.ent (st' := { s := [(1, .one (.v (.int .i64 p))), (2, .one (.v (.int .i64 v))), (3, .one (.v (.int .i64 d))), (4, .one (.p 0 0))], m := [(0, .cells 41 ((TT.mk k n s la lc ls aa ac us).cells.map SA.v))], k := 1, f := [fun w => TTIn w (TT.mk k n s la lc ls aa ac us)] }) (zaa [(0, .blk 0)] rfl rfl rfl rfl (leB rfl) (rs rfl rfl) (rm rfl rfl) ⟨⟨TTIn.upS _, fun w h => h.1⟩, trivial⟩) ?_
 refine zaf zab [] _ _ _ ?_
 refine ⟨⟨Nat, fun j => j <= us.length /\ zci k p v d j ((us.map TT.tm).drop j) = Z, fun j => { s := [(13, .one (.v (.int .i64 (j : Int)))), (1, .one (.v (.int .i64 p))), (2, .one (.v (.int .i64 v))), (3, .one (.v (.int .i64 d))), (4, .one (.p 0 0))], m := [(0, .cells 41 ((TT.mk k n s la lc ls aa ac us).cells.map SA.v))], k := 1, f := [fun w => TTIn w (TT.mk k n s la lc ls aa ac us)] }, fun j => us.length - j, ⟨0, ⟨Nat.zero_le _, hZ2⟩, zaa [(0, .blk 0)] rfl rfl rfl rfl (leB rfl) (rs rfl rfl) (rm rfl rfl) ⟨⟨TTIn.upS _, fun w h => h.1⟩, trivial⟩⟩, ?_⟩⟩
 rintro j ⟨hj, hA⟩
 refine zad (fun hlt => ?_) (fun hge => ?_)
 rotate_left
 ·have hge : us.length <= j := by
   have h : decide ((j : Int) < (us.length : Int)) = false := hge
   have := of_decide_eq_false h
   omega
  exact ⟨_, rfl, Told.val (by rw [<- hA, List.drop_eq_nil_of_le (by simpa using hge)]; simp [zci])⟩
 have hlt : j < us.length := by
  have h : decide ((j : Int) < (us.length : Int)) = true := hlt
  have := of_decide_eq_true h
  omega
 obtain ⟨u, hu⟩ : ∃ u, us[j]? = some u := ⟨_, List.getElem?_eq_getElem hlt⟩
 have hmem := List.mem_of_getElem? hu
 have hrec := ih _ (zd2 hmem) (IntKind.i64.wrap (v + za9 k j)) (IntKind.i64.wrap (d + za9 k j)) u rfl
 have hstep : Z = (allT p (IntKind.i64.wrap (v + za9 k j)) (IntKind.i64.wrap (d + za9 k j)) u.tm && zci k p v d (j + 1) ((us.map TT.tm).drop (j + 1))) := by
  rw [<- hA, List.drop_eq_getElem_cons (by simpa using hlt), zci]
  simp [(List.getElem?_eq_some_iff.1 hu).2]
 obtain ⟨uk, un, uname, ula, ulc, uls, uaa, uac, uus⟩ := u
 obtain ⟨b, hb⟩ : ∃ b, allT p (IntKind.i64.wrap (v + za9 k j)) (IntKind.i64.wrap (d + za9 k j)) (TT.mk uk un uname ula ulc uls uaa uac uus).tm = b := ⟨_, rfl⟩
 rw [hb] at hrec hstep
 have hbi := zpo k j
 have hdi : za9 k j = 0 \/ za9 k j = 1 := by unfold za9; split <;> simp
 rw [zm8 (Int.natCast_nonneg j)] at hbi
 clear hb
 obtain ⟨dI, hdI⟩ : ∃ x, za9 k j = x := ⟨_, rfl⟩
 rw [hdI] at hbi hdi hrec
 rcases hdi with rfl | rfl
 ·rw [show decide ((0 : Int) = 1) = false from rfl] at hbi
  refine zae hbi (fun _ => rfl) (fun _ _ => trivial) ?_
  rintro r rfl
  refine ⟨{ n := j }, ⟨rfl, hlt, fun w h => ?_⟩, ?_⟩
  ·obtain ⟨⟨a, ha, _⟩, _⟩ := h.2.1.arg hu
   rw [ha]
   rfl
  refine ⟨{ cs := (TT.mk uk un uname ula ulc uls uaa uac uus).cells }, ⟨TT.cells_one (TT.mk uk un uname ula ulc uls uaa uac uus), rfl, fun w h => ?_⟩, ?_⟩
  ·obtain ⟨⟨a, ha, hc⟩, _⟩ := h.2.1.arg hu
   exact ⟨_, by rw [ha]; rfl, hc⟩
  refine zae hrec (fun _ => rfl) (fun w h => (h.2.1.arg hu).2) ?_
  rintro r rfl
  cases b with
  | false => exact ⟨_, rfl, Told.val (by rw [hstep]; rfl)⟩
  | true =>
   refine ⟨j + 1, ⟨hlt, by rw [hstep]; rfl⟩, by simp only; omega, ?_⟩
   exact zaa [(0, .blk 0)] rfl rfl rfl rfl (leB rfl) ⟨⟨_, rfl, oneI (za6 (by omega) (by omega))⟩, ⟨_, rfl, rfl⟩, ⟨_, rfl, rfl⟩, ⟨_, rfl, rfl⟩, ⟨_, rfl, rfl⟩, trivial⟩ ⟨⟨_, rfl, rfl⟩, trivial⟩ ⟨⟨TTIn.upS _, fun w h => h.2.2.1⟩, trivial⟩
 ·rw [show decide ((1 : Int) = 1) = true from rfl] at hbi
  refine zae hbi (fun _ => rfl) (fun _ _ => trivial) ?_
  rintro r rfl
  refine ⟨{ n := j }, ⟨rfl, hlt, fun w h => ?_⟩, ?_⟩
  ·obtain ⟨⟨a, ha, _⟩, _⟩ := h.2.1.arg hu
   rw [ha]
   rfl
  refine ⟨{ cs := (TT.mk uk un uname ula ulc uls uaa uac uus).cells }, ⟨TT.cells_one (TT.mk uk un uname ula ulc uls uaa uac uus), rfl, fun w h => ?_⟩, ?_⟩
  ·obtain ⟨⟨a, ha, hc⟩, _⟩ := h.2.1.arg hu
   exact ⟨_, by rw [ha]; rfl, hc⟩
  refine zae hrec (fun _ => rfl) (fun w h => (h.2.1.arg hu).2) ?_
  rintro r rfl
  cases b with
  | false => exact ⟨_, rfl, Told.val (by rw [hstep]; rfl)⟩
  | true =>
   refine ⟨j + 1, ⟨hlt, by rw [hstep]; rfl⟩, by simp only; omega, ?_⟩
   exact zaa [(0, .blk 0)] rfl rfl rfl rfl (leB rfl) ⟨⟨_, rfl, oneI (za6 (by omega) (by omega))⟩, ⟨_, rfl, rfl⟩, ⟨_, rfl, rfl⟩, ⟨_, rfl, rfl⟩, ⟨_, rfl, rfl⟩, trivial⟩ ⟨⟨_, rfl, rfl⟩, trivial⟩ ⟨⟨TTIn.upS _, fun w h => h.2.2.1⟩, trivial⟩
end Go.Proofs.YtmkpiekbpakigaaDoor
end
section
set_option linter.unusedVariables false
set_option linter.unusedSimpArgs false
namespace Go.Proofs.YtmkpiekbpakigaaDoor
open Go.RowKit Go.Proofs.Base Go.Proofs.Sym
mutual
theorem zl5 : ∀ (t : TT) (p v d : Int), allT p v d t.tm = true -> zdh 3000 t = if cntT t.tm <= 3000 then cntT t.tm else 3001
 | .mk k n s la lc ls aa ac us, p, v, d, h => by
  rw [zbt] at h ⊢
  unfold allT at h
  rw [Bool.and_eq_true] at h
  obtain ⟨_, _, _, _, _, hl⟩ := zgg h.1
  have hl := (zek hl).1
  have hl4 := (zle k).2
  rw [zdh, za6 (n := 1 + (ls.length : Int)) (by omega) (by omega), cntT]
  rcases zm0 us 0 (1 + ls.length) k p v d h.2 (by omega) (by omega) with ⟨g1, g2⟩ | ⟨g1, g2⟩
  ·rw [if_neg (by omega), if_pos g1, g2]
  ·rw [if_neg (show ¬ (1 + (ls.length : Int) + ze3 (us.map TT.tm) <= 3000) by omega)]
   split <;> omega
theorem zm0 : ∀ (us : List TT) (i : Nat) (n k p v d : Int), zci k p v d i (us.map TT.tm) = true -> 0 <= n -> n <= 6001 ->
  (n + ze3 (us.map TT.tm) <= 3000 /\ zeb 3000 us n = n + ze3 (us.map TT.tm)) \/ (3000 < n + ze3 (us.map TT.tm) /\ 3000 < zeb 3000 us n)
 | [], i, n, k, p, v, d, h, h0, h1 => by
  rw [List.map_nil, ze3, zeb]
  omega
 | t :: r, i, n, k, p, v, d, h, h0, h1 => by
  rw [List.map_cons] at h ⊢
  rw [zci, Bool.and_eq_true] at h
  have h2 := zl5 t _ _ _ h.1
  have h3 := zh8 t.tm
  have h4 := zfo (r.map TT.tm)
  rw [ze3, zeb]
  by_cases hn : n <= 3000
  ·rw [if_pos hn]
   have hb : 0 <= zdh 3000 t /\ zdh 3000 t <= 3001 := by rw [h2]; split <;> omega
   rw [za6 (by omega) (by omega)]
   have ih := zm0 r (i + 1) (n + zdh 3000 t) k p v d h.2 (by omega) (by omega)
   rw [h2] at ih ⊢
   split at ih
   ·rename_i hc
    rw [if_pos hc]
    omega
   ·rename_i hc
    rw [if_neg hc]
    omega
  ·rw [if_neg hn]
   omega
end
mutual
theorem zxe (p v d : Int) : ∀ (t : Tm) (c : Int), allT p v d t = true -> 0 <= c -> c <= 3000 -> (visT c t).1 <= c + cntT t
 | .mk k n s ls args, c, h, h0, h1 => by
  unfold allT at h
  rw [Bool.and_eq_true] at h
  obtain ⟨_, _, _, _, _, hl⟩ := zgg h.1
  have hl := (zek hl).1
  have hl4 := (zle k).2
  have hc := ztc (ls := ls) h0 h1 (by omega)
  have hp := zfo args
  unfold visT cntT
  by_cases hle : cntB c ls <= 3000
  ·have hd : decide (cntB c ls <= 3000) = true := decide_eq_true hle
   simp only [hd]
   rw [hc] at hle ⊢
   have := zvf k p v d args 0 (c + (1 + ls.length)) h.2 (by omega) hle
   omega
  ·have hd : decide (cntB c ls <= 3000) = false := decide_eq_false hle
   simp only [hd]
   omega
theorem zvf (k p v d : Int) : ∀ (ts : List Tm) (i : Nat) (c : Int), zci k p v d i ts = true -> 0 <= c -> c <= 3000 -> (zdj c ts).1 <= c + ze3 ts
 | [], i, c, _, h0, h1 => by
  unfold zdj ze3
  simp
 | t :: r, i, c, h, h0, h1 => by
  unfold zci at h
  rw [Bool.and_eq_true] at h
  unfold zdj ze3
  have hle := zxe p _ _ t c h.1 h0 h1
  have hp := zfo r
  have hp2 := zh8 t
  rcases zsw p _ _ t c h.1 h0 h1 with ⟨g1, g2, g3⟩ | ⟨g1, g2⟩
  ·rw [g1]
   simp only
   rw [g2]
   have := zvf k p v d r (i + 1) (c + cntT t) h.2 (by omega) g3
   omega
  ·rw [g1]
   simp only
   omega
end
theorem zxa {p v : Int} {t : TT} (h : allT p v 0 t.tm = true) : decide (zdh 3000 t <= 3000) = decide (zcd t.tm <= 3000) := by
 rw [decide_eq_decide, zl5 t _ _ _ h]
 unfold zcd
 rcases zsw p v 0 t.tm 0 h (by omega) (by omega) with ⟨g1, g2, g3⟩ | ⟨g1, g2⟩
 ·rw [g2]
  repeat' split
  all_goals omega
 ·have hc : ¬ cntT t.tm <= 3000 := by
   intro hc
   have := zxe p v 0 t.tm 0 h (by omega) (by omega)
   omega
  rw [if_neg hc]
  split <;> omega
theorem zwb (p v : Int) (t : TT) : zbf p v t.tm = (decide (0 <= p) && (decide (p <= 4) && (decide (0 <= v) && (decide (v <= 1099511627776) && (decide (zdh 3000 t <= 3000) && allT p v 0 t.tm))))) := by
 unfold zbf
 cases h : allT p v 0 t.tm with
 | false => simp
 | true => rw [zxa h]
theorem ztr (p v : Int) (t : TT) : PCall Tryd.prog 47 [t.val, .int .i64 p, .int .i64 v] (fun w => TTIn w t) (fun r => r = .bool (zbf p v t.tm)) (fun _ _ => True) := by
 have hn := zlf 3000 (by omega) (by omega) t
 have ha := ztw p v 0 t
 have hs := zwb p v t
 obtain ⟨Z, hZ⟩ : ∃ Z, zbf p v t.tm = Z := ⟨_, rfl⟩
 rw [hZ] at hs ⊢
 clear hZ
 obtain ⟨nr, hnr⟩ : ∃ x, zdh 3000 t = x := ⟨_, rfl⟩
 obtain ⟨a, hae⟩ : ∃ x, allT p v 0 t.tm = x := ⟨_, rfl⟩
 rw [hnr] at hn hs
 rw [hae] at ha hs
 obtain ⟨k, n, s, la, lc, ls, aa, ac, us⟩ := t
 refine zaq zab 32 [.tmp 6] Tryd.func47 rfl rfl (by kernel_rfl) rfl _ (leB rfl) (TTIn.upS _) (fun _ => Up.true) ?_
 refine zaf zab [] _ _ _ ?_
 refine zad (fun h1 => ?_) (fun h1 => ?_)
 rotate_left
 ·exact ⟨_, rfl, Told.val (by rw [hs, show decide (0 <= p) = false from h1]; rfl)⟩
 refine zad (fun h2 => ?_) (fun h2 => ?_)
 rotate_left
 ·exact ⟨_, rfl, Told.val (by rw [hs, show decide (0 <= p) = true from h1, show decide (p <= 4) = false from h2]; rfl)⟩
 refine zad (fun h3 => ?_) (fun h3 => ?_)
 rotate_left
 ·exact ⟨_, rfl, Told.val (by rw [hs, show decide (0 <= p) = true from h1, show decide (p <= 4) = true from h2, show decide (0 <= v) = false from h3]; rfl)⟩
 refine zad (fun h4 => ?_) (fun h4 => ?_)
 rotate_left
 ·exact ⟨_, rfl, Told.val (by rw [hs, show decide (0 <= p) = true from h1, show decide (p <= 4) = true from h2, show decide (0 <= v) = true from h3, show decide (v <= 1099511627776) = false from h4]; rfl)⟩
 rw [show decide (0 <= p) = true from h1, show decide (p <= 4) = true from h2, show decide (0 <= v) = true from h3, show decide (v <= 1099511627776) = true from h4] at hs
 refine zae hn (fun _ => rfl) (fun w h => h.1) ?_
 rintro r rfl
 refine zad (fun h5 => ?_) (fun h5 => ?_)
 rotate_left
 ·exact ⟨_, rfl, Told.val (by rw [hs, show decide (nr <= 3000) = false from h5]; rfl)⟩
 rw [show decide (nr <= 3000) = true from h5] at hs
 refine zae ha (fun _ => rfl) (fun w h => h.2.1) ?_
 rintro r rfl
 exact ⟨_, rfl, Told.val (by rw [hs]; rfl)⟩
theorem zoi (t : TT) : PCall Tryd.prog 37 [t.val] (fun w => TTIn w t) (fun r => r = .bool (zbf 4 1099511627776 t.tm)) (fun _ _ => True) := by
 have hr := ztr 4 1099511627776 t
 obtain ⟨Z, hZ⟩ : ∃ Z, zbf 4 1099511627776 t.tm = Z := ⟨_, rfl⟩
 rw [hZ] at hr ⊢
 obtain ⟨k, n, s, la, lc, ls, aa, ac, us⟩ := t
 refine zaq zab 5 [.tmp 2] Tryd.func37 rfl rfl (by kernel_rfl) rfl _ (leB rfl) (TTIn.upS _) (fun _ => Up.true) ?_
 refine zaf zab [] _ _ _ ?_
 refine zae hr (fun _ => rfl) (fun w h => h.1) ?_
 rintro r rfl
 exact ⟨_, rfl, Told.val rfl⟩
end Go.Proofs.YtmkpiekbpakigaaDoor
end
section
set_option linter.unusedVariables false
set_option linter.unusedSimpArgs false
namespace Go.Proofs.YtmkpiekbpakigaaDoor
open Go.RowKit Go.Proofs.Base Go.Proofs.Sym
def mxI (a b : Int) : Int := if b > a then b else a
mutual
def loW : Tm -> Int -> Int
 | .mk k n _ _ us, d => if k = 1 then mxI (IntKind.i64.wrap (IntKind.i64.wrap (n - d) + 1)) 0 else loWs k 0 us d 0
def loWs (k : Int) : Nat -> List Tm -> Int -> Int -> Int
 | _, [], _, acc => acc
 | j, u :: r, d, acc => loWs k (j + 1) r d (mxI acc (loW u (IntKind.i64.wrap (d + za9 k j))))
end
def oneM (t : TT) : List (Nat × LB) := [(0, .cells 41 (t.cells.map SA.v))]
set_option maxHeartbeats 4000000 in
theorem zs2 (d : Int) (t : TT) : PCall Tryd.prog 78 [t.val, .int .i64 d] (fun w => TTIn w t) (fun r => r = .int .i64 (loW t.tm d)) (fun _ _ => True) := by
 induction hsz : SizeOf.sizeOf t using Nat.strongRecOn generalizing t d with
 | _ z ih =>
 obtain ⟨k, n, s, la, lc, ls, aa, ac, us⟩ := t
 subst hsz
 by_cases hal : us.length <= 9223372036854775807
 rotate_left
 ·refine ⟨zhf Tryd.func78 (by kernel_rfl) (by kernel_rfl), fun _ => Up.true, fun w H hH hp => ?_⟩
  have := hp.node
  have h1 := this.hac
  have h2 := this.ham
  simp only [maxLen] at h2
  omega
 have hspec : loW (TT.mk k n s la lc ls aa ac us).tm d = if k = 1 then mxI (IntKind.i64.wrap (IntKind.i64.wrap (n - d) + 1)) 0 else loWs k 0 (us.map TT.tm) d 0 := by
  rw [zbt, loW]
 obtain ⟨Z, hZ⟩ : ∃ Z, loW (TT.mk k n s la lc ls aa ac us).tm d = Z := ⟨_, rfl⟩
 rw [hZ] at hspec ⊢
 clear hZ
 refine zaq zab 40 [.tmp 4] Tryd.func78 rfl rfl (by kernel_rfl) rfl _ (leB rfl) (TTIn.upS _) (fun _ => Up.true) ?_
 refine zaf zab [3] _ _ _ ?_
 refine zad (fun h => ?_) (fun h => ?_)
 ·have h : decide (k = 1) = true := h
  rw [if_pos (of_decide_eq_true h)] at hspec
  exact ⟨_, rfl, Told.val (by rw [hspec]; rfl)⟩
 have h : decide (k = 1) = false := h
 rw [if_neg (of_decide_eq_false h)] at hspec
 clear h
 refine zai.ent (st' := { s := [(1, .one (.v (.int .i64 d))), (2, .one (.p 0 0))], m := oneM (TT.mk k n s la lc ls aa ac us), k := 1, f := [fun w => TTIn w (TT.mk k n s la lc ls aa ac us)] }) (zaa [(0, .blk 0)] rfl rfl rfl rfl (leB rfl) (rs rfl rfl) (rm rfl rfl) ⟨⟨TTIn.upS _, fun w h => h.1⟩, trivial⟩) ?_
 refine zaf zab [] _ _ _ ?_
 refine ⟨⟨Nat × Int, fun q => q.1 <= us.length /\ loWs k q.1 ((us.map TT.tm).drop q.1) d q.2 = Z, fun q => { s := [(5, .one (.v (.int .i64 q.2))), (6, .one (.v (.int .i64 (q.1 : Int)))), (1, .one (.v (.int .i64 d))), (2, .one (.p 0 0))], m := oneM (TT.mk k n s la lc ls aa ac us), k := 1, f := [fun w => TTIn w (TT.mk k n s la lc ls aa ac us)] }, fun q => us.length - q.1, ⟨(0, 0), ⟨Nat.zero_le _, hspec.symm⟩, zaa [(0, .blk 0)] rfl rfl rfl rfl (leB rfl) (rs rfl rfl) (rm rfl rfl) ⟨⟨TTIn.upS _, fun w h => h.1⟩, trivial⟩⟩, ?_⟩⟩
 rintro ⟨j, acc⟩ ⟨hj, hA⟩
 have hj : j <= us.length := hj
 have hA : loWs k j ((us.map TT.tm).drop j) d acc = Z := hA
 refine zad (fun hlt => ?_) (fun hge => ?_)
 rotate_left
 ·have hge : us.length <= j := by
   have h : decide ((j : Int) < (us.length : Int)) = false := hge
   have := of_decide_eq_false h
   omega
  exact ⟨_, rfl, Told.val (by rw [<- hA, List.drop_eq_nil_of_le (by simpa using hge), loWs])⟩
 have hlt : j < us.length := by
  have h : decide ((j : Int) < (us.length : Int)) = true := hlt
  have := of_decide_eq_true h
  omega
 obtain ⟨u, hu⟩ : ∃ u, us[j]? = some u := ⟨_, List.getElem?_eq_getElem hlt⟩
 have hmem := List.mem_of_getElem? hu
 have hrec := ih _ (zd2 hmem) (IntKind.i64.wrap (d + za9 k j)) u rfl
 have hstep : loWs k (j + 1) ((us.map TT.tm).drop (j + 1)) d (mxI acc (loW u.tm (IntKind.i64.wrap (d + za9 k j)))) = Z := by
  rw [List.drop_eq_getElem_cons (i := j) (by simpa using hlt), loWs] at hA
  simpa [(List.getElem?_eq_some_iff.1 hu).2] using hA
 obtain ⟨uk, un, uname, ula, ulc, uls, uaa, uac, uus⟩ := u
 obtain ⟨b, hb⟩ : ∃ b, loW (TT.mk uk un uname ula ulc uls uaa uac uus).tm (IntKind.i64.wrap (d + za9 k j)) = b := ⟨_, rfl⟩
 rw [hb] at hrec hstep
 have hbi := zpo k j
 have hdi := zfy k j
 rw [zm8 (Int.natCast_nonneg j)] at hbi
 clear hb
 obtain ⟨dI, hdI⟩ : ∃ x, za9 k j = x := ⟨_, rfl⟩
 rw [hdI] at hbi hdi hrec
 rcases hdi with rfl | rfl
 all_goals
  first
   | rw [show decide ((0 : Int) = 1) = false from rfl] at hbi
   | rw [show decide ((1 : Int) = 1) = true from rfl] at hbi
  refine zae hbi (fun _ => rfl) (fun _ _ => trivial) ?_
  rintro r rfl
  refine ⟨{ n := j }, ⟨rfl, hlt, fun w h => ?_⟩, ?_⟩
  ·obtain ⟨⟨a, ha, _⟩, _⟩ := h.2.1.arg hu
   rw [ha]
   rfl
  refine ⟨{ cs := (TT.mk uk un uname ula ulc uls uaa uac uus).cells }, ⟨TT.cells_one (TT.mk uk un uname ula ulc uls uaa uac uus), rfl, fun w h => ?_⟩, ?_⟩
  ·obtain ⟨⟨a, ha, hc⟩, _⟩ := h.2.1.arg hu
   exact ⟨_, by rw [ha]; rfl, hc⟩
  refine zae hrec (fun _ => rfl) (fun w h => (h.2.1.arg hu).2) ?_
  rintro r rfl
  refine ⟨(j + 1, mxI acc b), ⟨hlt, hstep⟩, by simp only; omega, ?_⟩
  exact zaa [(0, .blk 0)] rfl rfl rfl rfl (leB rfl) ⟨⟨_, rfl, rfl⟩, ⟨_, rfl, oneI (za6 (by omega) (by omega))⟩, ⟨_, rfl, rfl⟩, ⟨_, rfl, rfl⟩, trivial⟩ (rm rfl rfl) ⟨⟨TTIn.upS _, fun w h => h.2.2.1⟩, trivial⟩
def zi6 (t : Tm) : Int := if zaz t = true then loW t 0 else 0
theorem zsr (t : TT) : PCall Tryd.prog 38 [t.val] (fun w => TTIn w t) (fun r => r = .int .i64 (zi6 t.tm)) (fun _ _ => True) := by
 have ha := zoi t
 have hl := zs2 0 t
 have hs : zi6 t.tm = if zbf 4 1099511627776 t.tm = true then loW t.tm 0 else 0 := rfl
 obtain ⟨Z, hZ⟩ : ∃ Z, zbf 4 1099511627776 t.tm = Z := ⟨_, rfl⟩
 obtain ⟨L, hL⟩ : ∃ L, loW t.tm 0 = L := ⟨_, rfl⟩
 rw [hZ] at ha hs
 rw [hL] at hl hs
 obtain ⟨k, n, s, la, lc, ls, aa, ac, us⟩ := t
 refine zaq zab 8 [.tmp 2] Tryd.func38 rfl rfl (by kernel_rfl) rfl _ (leB rfl) (TTIn.upS _) (fun _ => Up.true) ?_
 refine zaf zab [] _ _ _ ?_
 refine zae ha (fun _ => rfl) (fun w h => h.1) ?_
 rintro r rfl
 cases Z with
 | false => exact ⟨_, rfl, Told.val (by rw [hs]; rfl)⟩
 | true =>
  refine zae hl (fun _ => rfl) (fun w h => h.2.1) ?_
  rintro r rfl
  exact ⟨_, rfl, Told.val (by rw [hs]; rfl)⟩
end Go.Proofs.YtmkpiekbpakigaaDoor
end
section
set_option linter.unusedVariables false
set_option linter.unusedSimpArgs false
namespace Go.Proofs.YtmkpiekbpakigaaDoor
open Go.RowKit Go.Proofs.Base Go.Proofs.Sym
theorem zrt {k n : Int} {s : ByteArray} {ls : List Lv} {len p v d : Int} (h : zcu k n s ls len p v d = true) : len = zf3 k /\ zbq k ls p = true := by
 unfold zcu at h
 simp only [Bool.and_eq_true, decide_eq_true_eq] at h
 exact ⟨h.2.2.2.1, h.2.2.2.2.2⟩
theorem zn3 {k : Int} {ls : List Lv} {p : Int} (h : zbq k ls p = true) : (ls.length : Int) <= zgo k /\ ∀ l ∈ ls, l.right = true /\ l.width <= p := by
 unfold zbq at h
 simp only [Bool.and_eq_true, Bool.not_eq_true', Bool.or_eq_false_iff, decide_eq_false_iff_not] at h
 refine ⟨by omega, fun l hl => ?_⟩
 have := List.any_eq_false.1 h.2 l hl
 unfold zbo at this
 simp only [Bool.or_eq_true, Bool.not_eq_true', decide_eq_true_eq, not_or] at this
 exact ⟨by simpa using this.1, by omega⟩
end Go.Proofs.YtmkpiekbpakigaaDoor
end
