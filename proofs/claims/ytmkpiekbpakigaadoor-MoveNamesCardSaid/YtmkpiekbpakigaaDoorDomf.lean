/- What the claim needs of Tm4, Tm5, SymQ, Tm6, Wd2, Wd1, Wd3, Tm7, Tm8, Tm9, Cd6, Cd1, Cd3, Cd7, Dc1, Pl1, Dc4, Dc5, Own3, in one text. -/
import Derived.RangeFuncNested
import Derived.RangeFuncCalls
import Derived.RangeFuncLeaves
import Derived.Shelf.Abstract
import Derived.WalkKit
import Derived.OwnWalkIn
import Derived.TacticsInMore
import Derived.LoopNIn
import Derived.LoopIn
import Derived.Lib.IndexLaws
import Derived.IntWalk
import Derived.Test.YtmkpiekbpakigaaDoorDomb
import Derived.Test.YtmkpiekbpakigaaDoorDome
section
set_option linter.unusedVariables false
set_option linter.unusedSimpArgs false
namespace Go.Proofs.YtmkpiekbpakigaaDoor
open Go.RowKit Go.Proofs.Base Go.Proofs.Sym
def zxs : List Int := [0, 0, 0, 0, 0, -1, 0, 0, -1, 0, 1, -1, 0, 4, -1, 2, 0, -1, 2, 0, 1, 2, 0, 1, 3, 0, 2, 1, 0, -1]
def zbt : Value := .agg (zxs.map (Value.int .i64)).toArray
theorem zex : PCall Tryd.prog 160 [] (fun _ => True) (fun r => r = zbt) (fun _ _ => True) := by
 refine zar zac 11 [.cell 0 192] Tryd.func160 rfl rfl (by kernel_rfl) rfl _ (leB rfl) Up.true (fun _ => Up.true) ?_
 refine zaf zac [] _ _ _ ?_
 exact ⟨_, rfl, ⟨fun _ _ _ _ _ => ⟨rfl, trivial⟩⟩⟩
def za7 (k : Int) : Int := if k = 6 \/ k = 7 then 1 else if k = 8 then 2 else -1
def zbi (k a : Int) : Int := if 1 <= k /\ k <= 9 /\ za7 k = a then 1 else 0
theorem zm6 (k a : Int) : PCall Tryd.prog 163 [.int .i64 k, .int .i64 a] (fun _ => True) (fun r => r = .int .i64 (zbi k a)) (fun _ _ => True) := by
 by_cases hk : 1 <= k /\ k <= 9
 ·have hkk : k = 1 \/ k = 2 \/ k = 3 \/ k = 4 \/ k = 5 \/ k = 6 \/ k = 7 \/ k = 8 \/ k = 9 := by omega
  have fin : ∀ (b : Int), za7 k = b -> zbi k a = if b = a then 1 else 0 := fun b hb => by
   unfold zbi
   rw [hb]
   simp [hk]
  rcases hkk with rfl | rfl | rfl | rfl | rfl | rfl | rfl | rfl | rfl
  all_goals
   have fin := fin _ rfl
   refine zar zac 19 [.tmp 4] Tryd.func163 rfl rfl (by kernel_rfl) rfl _ (leB rfl) Up.true (fun _ => Up.true) ?_
   refine zaf zac [] _ _ _ ?_
   refine zae zex (fun _ => rfl) (fun _ _ => trivial) ?_
   rintro r rfl
  ·refine ⟨{ n := 1 }, ⟨rfl, by decide, rfl⟩, ?_⟩
   refine zad (fun h => ?_) (fun h => ?_)
   ·have h : decide ((-1 : Int) = a) = true := h
    exact ⟨_, rfl, Told.val (by rw [fin]; simp at h; simp [za7, h])⟩
   ·have h : decide ((-1 : Int) = a) = false := h
    exact ⟨_, rfl, Told.val (by rw [fin]; simp at h; simp [za7, h])⟩
  ·refine ⟨{ n := 2 }, ⟨rfl, by decide, rfl⟩, ?_⟩
   refine zad (fun h => ?_) (fun h => ?_)
   ·have h : decide ((-1 : Int) = a) = true := h
    exact ⟨_, rfl, Told.val (by rw [fin]; simp at h; simp [za7, h])⟩
   ·have h : decide ((-1 : Int) = a) = false := h
    exact ⟨_, rfl, Told.val (by rw [fin]; simp at h; simp [za7, h])⟩
  ·refine ⟨{ n := 3 }, ⟨rfl, by decide, rfl⟩, ?_⟩
   refine zad (fun h => ?_) (fun h => ?_)
   ·have h : decide ((-1 : Int) = a) = true := h
    exact ⟨_, rfl, Told.val (by rw [fin]; simp at h; simp [za7, h])⟩
   ·have h : decide ((-1 : Int) = a) = false := h
    exact ⟨_, rfl, Told.val (by rw [fin]; simp at h; simp [za7, h])⟩
  ·refine ⟨{ n := 4 }, ⟨rfl, by decide, rfl⟩, ?_⟩
   refine zad (fun h => ?_) (fun h => ?_)
   ·have h : decide ((-1 : Int) = a) = true := h
    exact ⟨_, rfl, Told.val (by rw [fin]; simp at h; simp [za7, h])⟩
   ·have h : decide ((-1 : Int) = a) = false := h
    exact ⟨_, rfl, Told.val (by rw [fin]; simp at h; simp [za7, h])⟩
  ·refine ⟨{ n := 5 }, ⟨rfl, by decide, rfl⟩, ?_⟩
   refine zad (fun h => ?_) (fun h => ?_)
   ·have h : decide ((-1 : Int) = a) = true := h
    exact ⟨_, rfl, Told.val (by rw [fin]; simp at h; simp [za7, h])⟩
   ·have h : decide ((-1 : Int) = a) = false := h
    exact ⟨_, rfl, Told.val (by rw [fin]; simp at h; simp [za7, h])⟩
  ·refine ⟨{ n := 6 }, ⟨rfl, by decide, rfl⟩, ?_⟩
   refine zad (fun h => ?_) (fun h => ?_)
   ·have h : decide ((1 : Int) = a) = true := h
    exact ⟨_, rfl, Told.val (by rw [fin]; simp at h; simp [za7, h])⟩
   ·have h : decide ((1 : Int) = a) = false := h
    exact ⟨_, rfl, Told.val (by rw [fin]; simp at h; simp [za7, h])⟩
  ·refine ⟨{ n := 7 }, ⟨rfl, by decide, rfl⟩, ?_⟩
   refine zad (fun h => ?_) (fun h => ?_)
   ·have h : decide ((1 : Int) = a) = true := h
    exact ⟨_, rfl, Told.val (by rw [fin]; simp at h; simp [za7, h])⟩
   ·have h : decide ((1 : Int) = a) = false := h
    exact ⟨_, rfl, Told.val (by rw [fin]; simp at h; simp [za7, h])⟩
  ·refine ⟨{ n := 8 }, ⟨rfl, by decide, rfl⟩, ?_⟩
   refine zad (fun h => ?_) (fun h => ?_)
   ·have h : decide ((2 : Int) = a) = true := h
    exact ⟨_, rfl, Told.val (by rw [fin]; simp at h; simp [za7, h])⟩
   ·have h : decide ((2 : Int) = a) = false := h
    exact ⟨_, rfl, Told.val (by rw [fin]; simp at h; simp [za7, h])⟩
  ·refine ⟨{ n := 9 }, ⟨rfl, by decide, rfl⟩, ?_⟩
   refine zad (fun h => ?_) (fun h => ?_)
   ·have h : decide ((-1 : Int) = a) = true := h
    exact ⟨_, rfl, Told.val (by rw [fin]; simp at h; simp [za7, h])⟩
   ·have h : decide ((-1 : Int) = a) = false := h
    exact ⟨_, rfl, Told.val (by rw [fin]; simp at h; simp [za7, h])⟩
 ·have h0 : zbi k a = 0 := by
   unfold zbi
   rw [if_neg (fun h => hk ⟨h.1, h.2.1⟩)]
  rw [h0]
  refine zar zac 19 [.tmp 4] Tryd.func163 rfl rfl (by kernel_rfl) rfl _ (leB rfl) Up.true (fun _ => Up.true) ?_
  refine zaf zac [] _ _ _ ?_
  refine zad (fun h1 => ?_) (fun h1 => ?_)
  ·have h1 : decide (1 <= k) = true := h1
   have h1 := of_decide_eq_true h1
   refine zad (fun h2 => ?_) (fun h2 => ?_)
   ·have h2 : decide (k <= 9) = true := h2
    exact absurd ⟨h1, of_decide_eq_true h2⟩ hk
   ·exact ⟨_, rfl, Told.val rfl⟩
  ·exact ⟨_, rfl, Told.val rfl⟩
def zbp (p : Int) (l : Lv) : Bool := !l.right || decide (p < l.width)
theorem zn5 (l : Lv) (p : Int) (ptr : Value) : PCall Tryd.prog 174 [l.val, ptr] (fun w => ∃ a, ptr = .pointer (some a) /\ w.cell? a = some (.int .i64 p)) (fun r => r = .bool (zbp p l)) (fun _ _ => True) := by
 have hup : Up fun w => ∃ a, ptr = .pointer (some a) /\ w.cell? a = some (.int .i64 p) := Up.ex fun a => (Up.pure _).and (Up.cell _ _)
 have hr := zw2 l
 have hw := zvt l
 refine zar zac 13 [.tmp 3] Tryd.func174 rfl rfl (by kernel_rfl) rfl _ (leB rfl) hup (fun _ => Up.true) ?_
 refine zaf zac [] _ _ _ ?_
 obtain ⟨b, hb⟩ : ∃ b, l.right = b := ⟨_, rfl⟩
 rw [hb] at hr
 have hsp : zbp p l = (!b || decide (p < l.width)) := by unfold zbp; rw [hb]
 rw [hsp]
 cases b with
 | false =>
  refine .inl ⟨10, [0, 1, 3, 7, 15, 31, 15, 127, 255, 511], fun vs i => match i with
   | 1 => { R := fun r => r = .bool false, nf := fun _ => .bool false }
   | _ => {}, by kernel_rfl, rfl, by kernel_rfl, by kernel_rfl, by kernel_rfl, by decide, fun vals => ?_⟩
  refine ⟨fun _ => ⟨hr, fun _ _ => trivial, fun _ h => h⟩, ?_⟩
  intro _
  exact ⟨_, rfl, Told.val rfl⟩
 | true =>
  refine .inl ⟨10, [0, 1, 3, 7, 15, 31, 15, 127, 255, 511], fun vs i => match i with
   | 1 => { R := fun r => r = .bool true, nf := fun _ => .bool true }
   | 5 => { R := fun r => r = .int .i64 l.width, nf := fun _ => .int .i64 l.width }
   | 6 => { c := { v := .int .i64 p } }
   | _ => {}, by kernel_rfl, rfl, by kernel_rfl, by kernel_rfl, by kernel_rfl, by decide, fun vals => ?_⟩
  refine ⟨fun _ => ⟨hr, fun _ _ => trivial, fun _ h => h⟩, ?_⟩
  refine ⟨fun _ => ⟨hw, fun _ _ => trivial, fun _ h => h⟩, ?_⟩
  refine ⟨fun _ w h => ?_, ?_⟩
  ·exact h.2.1
  intro _
  exact ⟨_, rfl, Told.val rfl⟩
end Go.Proofs.YtmkpiekbpakigaaDoor
end
section
set_option linter.unusedVariables false
set_option linter.unusedSimpArgs false
namespace Go.Proofs.YtmkpiekbpakigaaDoor
open Go.RowKit Go.Proofs.Base Go.Proofs.Sym
def idxW (p : Int) : List Lv -> Nat -> Int
 | [], _ => -1
 | l :: r, i => if zbp p l then (i : Int) else idxW p r (i + 1)
theorem zpp (p : Int) : ∀ (ls : List Lv) (i : Nat), decide (0 <= idxW p ls i) = ls.any (zbp p)
 | [], i => rfl
 | l :: r, i => by
  unfold idxW
  rw [List.any_cons]
  cases zbp p l with
  | true => simp
  | false => simpa using zpp p r (i + 1)
def zgr (A : Option Addr) (ls : List Lv) (ptr : Value) (p : Int) (w : World) : Prop := zcz w A ls /\ ∃ a, ptr = .pointer (some a) /\ w.cell? a = some (.int .i64 p)
theorem zgr.up (A : Option Addr) (ls : List Lv) (ptr : Value) (p : Int) : Up (zgr A ls ptr p) := (zcz.up A ls).and (Up.ex fun a => (Up.pure _).and (Up.cell _ _))
theorem zrk (A : Option Addr) (ls : List Lv) (c : Nat) (ptr : Value) (p : Int) (hl : ls.length <= 9223372036854775807) :
  PCall Tryd.prog 183 [.slice A ls.length c, .func (.func 174) #[] #[ptr]] (zgr A ls ptr p) (fun r => r = .int .i64 (idxW p ls 0)) (fun _ _ => True) := by
 refine zar zac 19 [.tmp 4] Tryd.func183 rfl rfl (by kernel_rfl) rfl _ (leB rfl) (zgr.up _ _ _ _) (fun _ => Up.true) ?_
 refine zaf zac [] _ _ _ ?_
 refine ⟨⟨Nat, fun j => j <= ls.length /\ idxW p (ls.drop j) j = idxW p ls 0,
  fun j => { s := [(0, .one (.v (.slice A ls.length c))), (1, .one (.v (.func (.func 174) #[] #[ptr]))), (7, .one (.v (.int .i64 (ls.length : Int)))), (8, .one (.v (.int .i64 (j : Int))))], m := [], k := 0, f := [zgr A ls ptr p] },
  fun j => ls.length - j, ⟨0, ⟨Nat.zero_le _, rfl⟩, ?_⟩, ?_⟩⟩
 ·exact zaa [] rfl rfl rfl rfl (Nat.zero_le _) ⟨⟨_, rfl, rfl⟩, ⟨_, rfl, rfl⟩, ⟨_, rfl, rfl⟩, ⟨_, rfl, rfl⟩, trivial⟩ trivial ⟨⟨zgr.up _ _ _ _, fun w h => h.1⟩, trivial⟩
 rintro j ⟨hj, hpre⟩
 refine zad (fun hlt => ?_) (fun hge => ?_)
 ·have hlt : j < ls.length := by
   have h : decide ((j : Int) < (ls.length : Int)) = true := hlt
   have := of_decide_eq_true h
   omega
  obtain ⟨x, hx⟩ : ∃ x, ls[j]? = some x := ⟨_, List.getElem?_eq_getElem hlt⟩
  have hstep : idxW p ls 0 = if zbp p x then (j : Int) else idxW p (ls.drop (j + 1)) (j + 1) := by
   rw [<- hpre, List.drop_eq_getElem_cons hlt, (List.getElem?_eq_some_iff.1 hx).2, idxW]
  have hc := zn5 x p ptr
  obtain ⟨b, hb⟩ : ∃ b, zbp p x = b := ⟨_, rfl⟩
  rw [hb] at hc hstep
  refine ⟨{ n := j }, ⟨rfl, hlt, fun w h => ?_⟩, ?_⟩
  ·obtain ⟨a, ha, _⟩ := zck h.1.1 hx
   rw [ha]; rfl
  refine ⟨{ cs := zbh x }, ⟨zca x, rfl, fun w h => ?_⟩, ?_⟩
  ·obtain ⟨a, ha, hc⟩ := zck h.1.1 hx
   exact ⟨_, by rw [ha]; rfl, hc⟩
  cases b with
  | true =>
   refine zae hc (fun _ => rfl) (fun w h => h.1.2) ?_
   rintro r rfl
   exact ⟨_, rfl, Told.val (by rw [hstep]; rfl)⟩
  | false =>
   refine zae hc (fun _ => rfl) (fun w h => h.1.2) ?_
   rintro r rfl
   refine ⟨j + 1, ⟨hlt, hstep.symm⟩, by simp only; omega, ?_⟩
   exact zaa [] rfl rfl rfl rfl (Nat.zero_le _) ⟨⟨_, rfl, rfl⟩, ⟨_, rfl, rfl⟩, ⟨_, rfl, rfl⟩, ⟨_, rfl, oneI (za9 (by omega) (by omega))⟩, trivial⟩ trivial ⟨⟨zgr.up _ _ _ _, fun w h => h.2.1⟩, trivial⟩
 ·have hge : ls.length <= j := by
   have h : decide ((j : Int) < (ls.length : Int)) = false := hge
   have := of_decide_eq_false h
   omega
  exact ⟨_, rfl, Told.val (by rw [<- hpre, List.drop_eq_nil_of_le hge]; rfl)⟩
theorem zlt (A : Option Addr) (ls : List Lv) (c : Nat) (ptr : Value) (p : Int) (hl : ls.length <= 9223372036854775807) :
  PCall Tryd.prog 175 [.slice A ls.length c, .func (.func 174) #[] #[ptr]] (zgr A ls ptr p) (fun r => r = .bool (ls.any (zbp p))) (fun _ _ => True) := by
 rw [<- zpp p ls 0]
 refine zar zac 9 [.tmp 4] Tryd.func175 rfl rfl (by kernel_rfl) rfl _ (leB rfl) (zgr.up _ _ _ _) (fun _ => Up.true) ?_
 refine zaf zac [] _ _ _ ?_
 refine zae (zrk A ls c ptr p hl) (fun _ => rfl) (fun w h => h.1) ?_
 rintro r rfl
 exact ⟨_, rfl, Told.val rfl⟩
end Go.Proofs.YtmkpiekbpakigaaDoor
end
section
set_option linter.unusedVariables false
set_option linter.unusedSimpArgs false
namespace Go.Proofs.Sym
open Go.RowKit Go.Proofs.Base Go.Proofs.Mono
section
variable {P : Program} {T : Tab} {N : Nat} {ops : Array Oper} {tb C : List Nat} {ds : List (Nat × Dl)} {K : St -> Prop} {X : List PanicEntry -> St -> Prop} {n : Nat} {L : List Nat} {st : St}
structure zabj (P : Program) (T : Tab) (N : Nat) (ops : Array Oper) (tb C : List Nat) (ds : List (Nat × Dl)) (K : St -> Prop) (X : List PanicEntry -> St -> Prop) (n : Nat) (L : List Nat) (st : St) (i : Nat) : Prop where
 ex : ∃ o, ops[i]? = some o /\ o.guard = none /\ ∃ sg, sig T (rst N ops tb ds i o st) o = sg /\ sigK P sg (rst N ops tb ds i o st) (fun v st' => cgo P T N ops tb C ds K X n (i :: L) (({ st' with s := st.s } : St).put N o.dst v)) X
def allC (P : Program) (T : Tab) (N : Nat) (ops : Array Oper) (tb C : List Nat) (ds : List (Nat × Dl)) (K : St -> Prop) (X : List PanicEntry -> St -> Prop) (n : Nat) (L : List Nat) (st : St) : List Nat -> Prop
 | [] => True
 | i :: r => zabj P T N ops tb C ds K X n L st i /\ allC P T N ops tb C ds K X n L st r
theorem zam (st1 : St) (l : List Nat) (he : st = st1) (hn : C.all (fun i => hasN i L) = false) (hr : zjn C L tb = l) (hs : zq8 T N ops tb ds L st1 ds) (h : allC P T N ops tb C ds K X n L st1 l) : cgo P T N ops tb C ds K X (n + 1) L st := by
 subst he hr
 unfold cgo
 refine ⟨hs, ?_⟩
 rw [hn]
 simp only
 have key : ∀ l, allC P T N ops tb C ds K X n L st l -> zns (fun i => match ops[i]? with
    | none => False
    | some o => match o.guard with
     | some _ => False
     | none => sigK P (sig T (rst N ops tb ds i o st) o) (rst N ops tb ds i o st) (fun v st' => cgo P T N ops tb C ds K X n (i :: L) (({ st' with s := st.s } : St).put N o.dst v)) X) l := by
  intro l
  induction l with
  | nil => intro _; trivial
  | cons i r ih =>
   rintro ⟨⟨o, ho, hg, sg, rfl, hk⟩, hr⟩
   refine ⟨?_, ih hr⟩
   simp only [ho, hg]
   exact hk
 exact key _ h
theorem zcm (st1 : St) (he : ({ st with s := selS N ds ++ st.s } : St) = st1) (hn : C.all (fun i => hasN i L) = true) (hs : zq8 T N ops tb ds L st ds) (h : K st1) : cgo P T N ops tb C ds K X n L st := by
 subst he
 unfold cgo
 refine ⟨hs, ?_⟩
 rw [hn]
 exact h
theorem zce.mono {f : FuncId} {args : List SV} {K K' : SV -> St -> Prop} {X X' : List PanicEntry -> St -> Prop} (hK : ∀ v s, K v s -> K' v s) (hX : ∀ c s, X c s -> X' c s) (h : zce P f args st K X) : zce P f args st K' X' := by
 refine ⟨fun cx e w hm hl => ?_⟩
 obtain ⟨h1, h2⟩ := h.run cx e w hm hl
 refine ⟨h1, h2.mono ?_⟩
 rintro en w' ⟨e', st', h3, h4, h5, h6, h7, h8⟩
 refine ⟨e', st', h3, h4, h5, h6, h7, ?_⟩
 rcases h8 with ⟨v, h8, h9, h10⟩ | ⟨ch, h8, h9⟩
 ·exact .inl ⟨v, h8, h9, hK _ _ h10⟩
 ·exact .inr ⟨ch, h8, hX _ _ h9⟩
theorem zvb {sg : Sig} {K K' : SV -> St -> Prop} {X X' : List PanicEntry -> St -> Prop} (hK : ∀ v s, K v s -> K' v s) (hX : ∀ c s, X c s -> X' c s) (h : sigK P sg st K X) : sigK P sg st K' X' := by
 cases sg with
 | bad => exact h
 | det v => exact hK _ _ h
 | new v t cs => exact hK _ _ h
 | pick ob v => obtain ⟨c, h1, h2⟩ := h; exact ⟨c, h1, hK _ _ h2⟩
 | set i t cs => exact hK _ _ h
 | setr ob i E z n xs => exact ⟨h.1, hK _ _ h.2⟩
 | ask R F => exact fun u hu => hK _ _ (h u hu)
 | grow ob old E z n xs => obtain ⟨c, h1, h2⟩ := h; exact ⟨c, h1, hK _ _ h2⟩
 | call f args => exact zce.mono hK hX h
 | pan v => exact hX _ _ h
theorem zki {p q : Nat -> Prop} (h : ∀ i, p i -> q i) : ∀ {l : List Nat}, zns p l -> zns q l
 | [], _ => trivial
 | i :: r, hp => ⟨h i hp.1, zki h hp.2⟩
theorem zwg {K' : St -> Prop} (hK : ∀ s, K' s -> K s) : ∀ (n : Nat) (L : List Nat) (st : St), cgo P T N ops tb C ds K' X n L st -> cgo P T N ops tb C ds K X n L st := by
 intro n
 induction n with
 | zero =>
  intro L st h
  unfold cgo at h ⊢
  refine ⟨h.1, ?_⟩
  have h2 := h.2
  split at h2
  ·exact hK _ h2
  ·exact h2.elim
 | succ n ih =>
  intro L st h
  unfold cgo at h ⊢
  refine ⟨h.1, ?_⟩
  have h2 := h.2
  split at h2
  ·exact hK _ h2
  ·refine zki (fun i hi => ?_) h2
   split at hi
   ·exact hi
   ·split at hi
    ·exact hi
    ·exact zvb (fun v s hs => ih _ _ hs) (fun _ _ hx => hx) hi
end
end Go.Proofs.Sym
namespace Go.Proofs.Sym
open Go.RowKit Go.Proofs.Base Go.Proofs.Mono
theorem zai.cut {P : Program} {N : Nat} {x y : Code} {K : Exit -> St -> Prop} {st : St} (st1 : St) (h1 : zai P N x (fun ex st' => match ex with | .normal => Ent st' st1 | ex => K ex st') st) (h2 : zai P N y K st1) : zai P N (.seq x y) K st := by
 refine zai.seq (h1.mono fun ex st' hK => ?_)
 cases ex with
 | normal => exact zai.ent hK h2
 | _ => exact hK
end Go.Proofs.Sym
namespace Go.Proofs.Sym
open Go.RowKit Go.Proofs.Base Go.Proofs.Mono
end Go.Proofs.Sym
end
section
set_option linter.unusedVariables false
set_option linter.unusedSimpArgs false
namespace Go.Proofs.YtmkpiekbpakigaaDoor
open Go.RowKit Go.Proofs.Base Go.Proofs.Sym
def zg2 (k : Int) : Int := if k = 5 \/ k = 6 \/ k = 7 then 2 else if k = 8 then 3 else if k = 9 then 1 else 0
def zh5 (k : Int) : Int := if k = 3 then 1 else if k = 4 then 4 else 0
def ze1 (k : Int) : SV := .agg [.v (.int .i64 (zg2 k)), .v (.int .i64 (zh5 k)), .v (.int .i64 (za7 k))]
def zci (k : Int) (ls : List Lv) (p : Int) : Bool := !(decide (zh5 k < (ls.length : Int)) || (decide (k = 3) && decide ((ls.length : Int) = 0))) && !ls.any (zbp p)
theorem zmj (k : Int) (h1 : 1 <= k) (h9 : k <= 9) (ti : TyI) (hti : ti.agg = true) (hs : ti.size = 3) : ze3 ti ((zxs.map (Value.int .i64)).map SA.v) (k.toNat * ti.size) = some (ze1 k) := by
 have hkk : k = 1 \/ k = 2 \/ k = 3 \/ k = 4 \/ k = 5 \/ k = 6 \/ k = 7 \/ k = 8 \/ k = 9 := by omega
 unfold ze3
 rw [hti, hs]
 rcases hkk with rfl | rfl | rfl | rfl | rfl | rfl | rfl | rfl | rfl <;> rfl
section
variable (k n : Int) (s : ByteArray) (la : Option Addr) (lc : Nat) (ls : List Lv) (aa : Option Addr) (ac : Nat) (us : List TT) (p : Int)
def l6s : List (Nat × SV) := [(4, .one (.v (.bool false))), (3, .one (.p 1 0)), (2, .one (.p 0 0)), (0, .one (.v (TT.mk k n s la lc ls aa ac us).val)), (1, .one (.v (.int .i64 p)))]
def l6m : List (Nat × LB) := [(1, .cells 3 [.v (.int .i64 p)]), (0, .cells 41 ((TT.mk k n s la lc ls aa ac us).cells.map SA.v))]
def l6z : LB := .cells 191 [.v (.int .i64 0), .v (.int .i64 0), .v (.int .i64 0)]
def l6c (k : Int) : LB := .cells 191 [.v (.int .i64 (zg2 k)), .v (.int .i64 (zh5 k)), .v (.int .i64 (za7 k))]
def l6f : List (World -> Prop) := [fun w => TTIn w (TT.mk k n s la lc ls aa ac us)]
def l6F : St := { s := [(4, .one (.v (.bool false))), (3, .one (.p 1 0)), (2, .one (.p 0 0)), (5, .one (.p 2 0))], m := [(2, l6c k), (1, .cells 3 [.v (.int .i64 p)]), (0, .cells 41 ((TT.mk k n s la lc ls aa ac us).cells.map SA.v))], k := 3, f := l6f k n s la lc ls aa ac us }
set_option maxHeartbeats 2000000 in
theorem zre (h1 : 1 <= k) (h9 : k <= 9) (hll : ls.length <= 9223372036854775807) : PCall Tryd.prog 162 [(TT.mk k n s la lc ls aa ac us).val, .int .i64 p] (fun w => TTIn w (TT.mk k n s la lc ls aa ac us)) (fun r => r = .bool (zci k ls p)) (fun _ _ => True) := by
 have hcon := fun ptr => zlt la ls lc ptr p hll
 have hpart := zmj k h1 h9
 have hlt : k.toNat < 10 := by omega
 refine zar zac 34 [.tmp 4] Tryd.func162 rfl rfl (by kernel_rfl) rfl _ (leB rfl) (TTIn.upS _) (fun _ => Up.true) ?_
 refine zaf zac [2] _ _ _ ?_
 refine .inr ⟨[0, 0, 2, 7, 0, 31], [0, 3, 4, 5], [(1, { dst := some 8, v := .one (.p 0 0), p := none, f := none }), (2, { dst := some 9, v := .one (.v (.int .i64 k)), p := none, f := none })], by kernel_rfl, rfl, by kernel_rfl, by kernel_rfl, rfl, rfl, rfl, rfl, ?_⟩
 refine zwg (K' := fun st' => Ent st' (l6F k n s la lc ls aa ac us p)) (fun st' h => ?_) _ _ _ ?_
 ·refine zai.ent h ?_
  refine zaf zac [] _ _ _ ?_
  have hsp : ∀ (b1 b2 b3 : Bool), decide (zh5 k < (ls.length : Int)) = b1 -> decide (k = 3) = b2 -> decide ((ls.length : Int) = 0) = b3 -> zci k ls p = (!(b1 || (b2 && b3)) && !ls.any (zbp p)) := fun b1 b2 b3 e1 e2 e3 => by
   unfold zci
   rw [e1, e2, e3]
  have fin : ∀ (b3 : Bool), decide ((ls.length : Int) = 0) = b3 -> (decide (k = 3) && b3) = false -> decide (zh5 k < (ls.length : Int)) = false -> zci k ls p = !ls.any (zbp p) := fun b3 e1 e2 e3 => by
   unfold zci
   rw [e3, e1, e2]
   rfl
  refine zad (fun g1 => ?_) (fun g1 => ?_)
  ·have g1 : decide (zh5 k < (ls.length : Int)) = true := g1
   exact ⟨_, rfl, Told.val (by unfold zci; rw [g1]; rfl)⟩
  have g1 : decide (zh5 k < (ls.length : Int)) = false := g1
  refine zad (fun g2 => ?_) (fun g2 => ?_)
  ·have g2 : decide (k = 3) = true := g2
   refine zad (fun g3 => ?_) (fun g3 => ?_)
   ·have g3 : decide ((ls.length : Int) = 0) = true := g3
    exact ⟨_, rfl, Told.val (by unfold zci; rw [g1, g2, g3]; rfl)⟩
   have g3 : decide ((ls.length : Int) = 0) = false := g3
   refine zau 1 rfl rfl (fun g => ?_)
   refine zae (hcon _) (fun _ => rfl) (fun w h => ⟨h.2.1.node.hls, _, rfl, ?_⟩) ?_
   ·obtain ⟨a, ha, hc⟩ := h.1 0 _ rfl
    cases ha
    exact hc
   rintro r rfl
   exact ⟨_, rfl, Told.val (by rw [fin _ g3 (by simp) g1])⟩
  ·have g2 : decide (k = 3) = false := g2
   refine zau 1 rfl rfl (fun g => ?_)
   refine zae (hcon _) (fun _ => rfl) (fun w h => ⟨h.2.1.node.hls, _, rfl, ?_⟩) ?_
   ·obtain ⟨a, ha, hc⟩ := h.1 0 _ rfl
    cases ha
    exact hc
   rintro r rfl
   exact ⟨_, rfl, Told.val (by rw [fin _ rfl (by rw [g2]; rfl) g1])⟩
 refine zam { s := l6s k n s la lc ls aa ac us p, m := l6m k n s la lc ls aa ac us p, k := 2, f := l6f k n s la lc ls aa ac us } [0, 4] rfl (by kernel_rfl) (by kernel_rfl) ⟨⟨rfl, rfl⟩, ⟨rfl, rfl⟩, trivial⟩ ⟨?_, ?_, trivial⟩
 ·refine ⟨_, rfl, rfl, _, rfl, ?_⟩
  refine zae zex (fun _ => rfl) (fun _ _ => trivial) ?_
  rintro r rfl
  refine zam { s := (7, .one (.v zbt)) :: l6s k n s la lc ls aa ac us p, m := l6m k n s la lc ls aa ac us p, k := 2, f := (fun _ => True) :: l6f k n s la lc ls aa ac us } [3, 4] rfl (by kernel_rfl) (by kernel_rfl) ⟨⟨rfl, rfl⟩, ⟨rfl, rfl⟩, trivial⟩ ⟨?_, ?_, trivial⟩
  ·refine ⟨_, rfl, rfl, _, rfl, ?_⟩
   refine ⟨{ n := k.toNat, u := some (ze1 k) }, ⟨(Int.toNat_of_nonneg (by omega)).symm, hlt, hpart _ rfl rfl⟩, ?_⟩
   refine zam { s := (10, ze1 k) :: (7, .one (.v zbt)) :: l6s k n s la lc ls aa ac us p, m := l6m k n s la lc ls aa ac us p, k := 2, f := (fun _ => True) :: l6f k n s la lc ls aa ac us } [4] rfl (by kernel_rfl) (by kernel_rfl) ⟨⟨rfl, trivial⟩, ⟨rfl, trivial⟩, trivial⟩ ⟨?_, trivial⟩
   refine ⟨_, rfl, rfl, _, rfl, ?_⟩
   refine zam { s := (5, .one (.p 2 0)) :: (10, ze1 k) :: (7, .one (.v zbt)) :: l6s k n s la lc ls aa ac us p, m := (2, l6z) :: l6m k n s la lc ls aa ac us p, k := 3, f := (fun _ => True) :: l6f k n s la lc ls aa ac us } [5] rfl (by kernel_rfl) (by kernel_rfl) ⟨⟨rfl, trivial⟩, ⟨rfl, trivial⟩, trivial⟩ ⟨?_, trivial⟩
   refine ⟨_, rfl, rfl, _, rfl, ?_⟩
   refine zcm _ rfl (by kernel_rfl) ⟨⟨rfl, trivial⟩, ⟨rfl, trivial⟩, trivial⟩ ?_
   exact zaa [(2, .blk 2), (1, .blk 1), (0, .blk 0)] rfl rfl rfl rfl (Nat.zero_le _) ⟨⟨_, rfl, rfl⟩, ⟨_, rfl, rfl⟩, ⟨_, rfl, rfl⟩, ⟨_, rfl, rfl⟩, trivial⟩ ⟨⟨_, rfl, rfl⟩, ⟨_, rfl, rfl⟩, ⟨_, rfl, rfl⟩, trivial⟩ ⟨⟨TTIn.upS _, fun w h => h.2.1⟩, trivial⟩
  ·refine ⟨_, rfl, rfl, _, rfl, ?_⟩
   refine zam { s := (5, .one (.p 2 0)) :: (7, .one (.v zbt)) :: l6s k n s la lc ls aa ac us p, m := (2, l6z) :: l6m k n s la lc ls aa ac us p, k := 3, f := (fun _ => True) :: l6f k n s la lc ls aa ac us } [3] rfl (by kernel_rfl) (by kernel_rfl) ⟨⟨rfl, rfl⟩, ⟨rfl, rfl⟩, trivial⟩ ⟨?_, trivial⟩
   refine ⟨_, rfl, rfl, _, rfl, ?_⟩
   refine ⟨{ n := k.toNat, u := some (ze1 k) }, ⟨(Int.toNat_of_nonneg (by omega)).symm, hlt, hpart _ rfl rfl⟩, ?_⟩
   refine zam { s := (10, ze1 k) :: (5, .one (.p 2 0)) :: (7, .one (.v zbt)) :: l6s k n s la lc ls aa ac us p, m := (2, l6z) :: l6m k n s la lc ls aa ac us p, k := 3, f := (fun _ => True) :: l6f k n s la lc ls aa ac us } [5] rfl (by kernel_rfl) (by kernel_rfl) ⟨⟨rfl, trivial⟩, ⟨rfl, trivial⟩, trivial⟩ ⟨?_, trivial⟩
   refine ⟨_, rfl, rfl, _, rfl, ?_⟩
   refine zcm _ rfl (by kernel_rfl) ⟨⟨rfl, trivial⟩, ⟨rfl, trivial⟩, trivial⟩ ?_
   exact zaa [(2, .blk 2), (1, .blk 1), (0, .blk 0)] rfl rfl rfl rfl (Nat.zero_le _) ⟨⟨_, rfl, rfl⟩, ⟨_, rfl, rfl⟩, ⟨_, rfl, rfl⟩, ⟨_, rfl, rfl⟩, trivial⟩ ⟨⟨_, rfl, rfl⟩, ⟨_, rfl, rfl⟩, ⟨_, rfl, rfl⟩, trivial⟩ ⟨⟨TTIn.upS _, fun w h => h.2.1⟩, trivial⟩
 ·refine ⟨_, rfl, rfl, _, rfl, ?_⟩
  refine zam { s := (5, .one (.p 2 0)) :: l6s k n s la lc ls aa ac us p, m := (2, l6z) :: l6m k n s la lc ls aa ac us p, k := 3, f := l6f k n s la lc ls aa ac us } [0] rfl (by kernel_rfl) (by kernel_rfl) ⟨⟨rfl, rfl⟩, ⟨rfl, rfl⟩, trivial⟩ ⟨?_, trivial⟩
  refine ⟨_, rfl, rfl, _, rfl, ?_⟩
  refine zae zex (fun _ => rfl) (fun _ _ => trivial) ?_
  rintro r rfl
  refine zam { s := (7, .one (.v zbt)) :: (5, .one (.p 2 0)) :: l6s k n s la lc ls aa ac us p, m := (2, l6z) :: l6m k n s la lc ls aa ac us p, k := 3, f := (fun _ => True) :: l6f k n s la lc ls aa ac us } [3] rfl (by kernel_rfl) (by kernel_rfl) ⟨⟨rfl, rfl⟩, ⟨rfl, rfl⟩, trivial⟩ ⟨?_, trivial⟩
  refine ⟨_, rfl, rfl, _, rfl, ?_⟩
  refine ⟨{ n := k.toNat, u := some (ze1 k) }, ⟨(Int.toNat_of_nonneg (by omega)).symm, hlt, hpart _ rfl rfl⟩, ?_⟩
  refine zam { s := (10, ze1 k) :: (7, .one (.v zbt)) :: (5, .one (.p 2 0)) :: l6s k n s la lc ls aa ac us p, m := (2, l6z) :: l6m k n s la lc ls aa ac us p, k := 3, f := (fun _ => True) :: l6f k n s la lc ls aa ac us } [5] rfl (by kernel_rfl) (by kernel_rfl) ⟨⟨rfl, trivial⟩, ⟨rfl, trivial⟩, trivial⟩ ⟨?_, trivial⟩
  refine ⟨_, rfl, rfl, _, rfl, ?_⟩
  refine zcm _ rfl (by kernel_rfl) ⟨⟨rfl, trivial⟩, ⟨rfl, trivial⟩, trivial⟩ ?_
  exact zaa [(2, .blk 2), (1, .blk 1), (0, .blk 0)] rfl rfl rfl rfl (Nat.zero_le _) ⟨⟨_, rfl, rfl⟩, ⟨_, rfl, rfl⟩, ⟨_, rfl, rfl⟩, ⟨_, rfl, rfl⟩, trivial⟩ ⟨⟨_, rfl, rfl⟩, ⟨_, rfl, rfl⟩, ⟨_, rfl, rfl⟩, trivial⟩ ⟨⟨TTIn.upS _, fun w h => h.2.1⟩, trivial⟩
end
end Go.Proofs.YtmkpiekbpakigaaDoor
end
section
set_option linter.unusedVariables false
set_option linter.unusedSimpArgs false
namespace Go.Proofs.YtmkpiekbpakigaaDoor
open Go.RowKit Go.Shelf
attribute [local go_sem] Oper.semAt_some
def za5 : List UInt8 -> List (List UInt8)
 | [] => [[]]
 | b :: r => match za5 r with
  | [] => [[b]]
  | x :: xs => if b == 46 then [] :: x :: xs else (b :: x) :: xs
theorem zge : ∀ l, za5 l ≠ []
 | [] => by simp [za5]
 | b :: r => by
  unfold za5
  split
  ·simp
  ·split <;> simp
theorem zes : ∀ {l : List UInt8}, Lib.indexByte l 46 = -1 -> za5 l = [l]
 | [], _ => rfl
 | b :: r, h => by
  unfold Lib.indexByte at h
  split at h
  ·simp at h
  ·rename_i hb
   have hr : Lib.indexByte r 46 = -1 := by
    split at h
    ·rename_i hl
     exact beq_iff_eq.1 hl
    ·have := Lib.indexByte_ge r 46
     omega
   unfold za5
   rw [zes hr]
   simp [hb]
theorem zgs : ∀ {l : List UInt8} {i : Nat}, Lib.indexByte l 46 = (i : Int) -> za5 l = l.take i :: za5 (l.drop (i + 1)) /\ i < l.length
 | [], i, h => by
  simp [Lib.indexByte] at h
 | b :: r, i, h => by
  unfold Lib.indexByte at h
  split at h
  ·rename_i hb
   have : i = 0 := by omega
   subst this
   refine ⟨?_, by simp⟩
   simp only [List.take_zero, Nat.zero_add, List.drop_one, List.tail_cons]
   rw [za5]
   cases hs : za5 r with
   | nil => exact absurd hs (zge r)
   | cons x xs => simp [hb]
  ·rename_i hb
   split at h
   ·rename_i hl
    omega
   ·rename_i hl
    have hge := Lib.indexByte_ge r 46
    have hne : Lib.indexByte r 46 ≠ -1 := fun e => hl (by rw [e]; rfl)
    obtain ⟨j, rfl⟩ : ∃ j, i = j + 1 := ⟨i - 1, by omega⟩
    have hj : Lib.indexByte r 46 = (j : Int) := by omega
    obtain ⟨h1, h2⟩ := zgs hj
    refine ⟨?_, by simp; omega⟩
    rw [za5, h1]
    simp [hb]
def zcu (l : List UInt8) : ByteArray := ⟨l.toArray⟩
theorem zq3 (s : ByteArray) : zcu s.data.toList = s := by cases s; rfl
theorem zkr (l : List UInt8) : (zcu l).data.toList = l := rfl
theorem zc9 (l : List UInt8) : (zcu l).size = l.length := rfl
theorem zri (l : List UInt8) (i : Nat) : (zcu l).extract 0 i = zcu (l.take i) := by
 apply ByteArray.ext
 simp [zcu, ByteArray.data_extract]
theorem zro (l : List UInt8) (i : Nat) (h : i <= l.length) : (zcu l).extract i l.length = zcu (l.drop i) := by
 apply ByteArray.ext
 simp only [zcu, ByteArray.data_extract]
 apply Array.ext'
 simp only [List.extract_toArray, List.extract_eq_take_drop]
 exact List.take_of_length_le (by simp)
def zy1 (sb : Nat) (w : World) : Nat := match w.cell? ⟨sb, 0, none⟩ with
 | some (.string r) => r.size
 | _ => 0
theorem zps {sb : Nat} {w : World} {r : ByteArray} (h : w.cell? ⟨sb, 0, none⟩ = some (.string r)) : zy1 sb w = r.size := by simp [zy1, h]
def KpS (p0 : Nat) (W W' : World) : Prop := ∀ k, p0 <= k -> k < p0 + 3 -> W'.heap[k]? = W.heap[k]?
set_option maxRecDepth 100000 in
set_option maxHeartbeats 2000000 in
theorem zw5 (F : Fence) (n l : Nat) (h167 : F.fn 167) (h148f : F.fn 148) (h148 : ∀ s (w : World) , CallsIn F (n - 1) Tryd.prog 148 #[.string s, .string ⟨#[46]⟩] w fun e w' => e = .returned (.int .i64 (Lib.indexByte s.data.toList 46)) /\ w' = w) (hro : F.round = none) (hn : 1 <= n) (p0 : Nat) (J Jx : List (List UInt8) -> World -> Prop)
  (hJ : ∀ pre W v, J pre W -> J pre (W.setCell ⟨p0, 0, none⟩ v))
  (s : List UInt8) (hY : ∀ pre x W, x.length <= s.length -> J pre W -> YieldAt F (n - 1) Tryd.prog l #[.string (zcu x)] W fun e W' =>
   (e = .returned (.bool true) /\ J (pre ++ [x]) W' /\ KpS p0 W W') \/ (e = .returned (.bool false) /\ Jx (pre ++ [x]) W'))
  (W : World) (hs : s.length <= 4611686018427387904) (hb0 : W.heap[p0]? = some (.cells #[.string (zcu s)] 9 (0, 0))) (hb1 : W.heap[p0 + 1]? = some (.cells #[.string ⟨#[46]⟩] 9 (0, 0))) (hb2 : W.heap[p0 + 2]? = some (.cells #[.int .i64 0] 3 (0, 0))) (h0 : J [] W) :
  CallsIn F n Tryd.prog 167 #[.func (.yield l) #[] #[], .pointer (some ⟨p0 + 1, 0, none⟩), .pointer (some ⟨p0, 0, none⟩), .pointer (some ⟨p0 + 2, 0, none⟩)] W fun e W' => (∃ v, e = .returned v) /\
   (J (za5 s) W' \/ ∃ pre x r, za5 s = pre ++ x :: r /\ Jx (pre ++ [x]) W') := by
 refine callsIn_of_wp Tryd.func167 rfl h167 ?_ hro
 simp only [Tryd.ntmps167, List.size_toArray, List.length_cons, List.length_nil, Nat.reduceAdd, Nat.reduceSub, Array.replicate_succ, Array.replicate_zero, List.push_toArray, List.append_toArray, List.nil_append, List.cons_append]
 have cell1 : ∀ {w : World} {g : Nat} {v : Value} {t : TypeId}, w.heap[g]? = some (.cells #[v] t (0, 0)) -> w.cell? ⟨g, 0, none⟩ = some v := fun h => by simp [World.cell?, h]
 have frz1 : ∀ {w : World} {g : Nat} {v : Value} {t : TypeId}, w.heap[g]? = some (.cells #[v] t (0, 0)) -> w.frozen? ⟨g, 0, none⟩ = false := fun h => by simp [World.frozen?, h]
 have hc0 := cell1 hb0
 have hc1 := cell1 hb1
 have hc2 := cell1 hb2
 gi_wp2
 gi_loopw [] (fun wr => ∃ (pre : List (List UInt8)) (rest : List UInt8), za5 s = pre ++ za5 rest /\ rest.length <= s.length /\ J pre wr /\ wr.heap[p0]? = some (.cells #[.string (zcu rest)] 9 (0, 0)) /\ wr.heap[p0 + 1]? = some (.cells #[.string ⟨#[46]⟩] 9 (0, 0)) /\ wr.heap[p0 + 2]? = some (.cells #[.int .i64 0] 3 (0, 0)))
  (fun wr => zy1 p0 wr)
 case atStart =>
  exact ⟨[], s, rfl, Nat.le_refl _, h0, hb0, hb1, hb2⟩
 case round =>
  obtain ⟨pre, rest, hsp, hle, hJ1, hb0, hb1, hb2⟩ := hrel
  have hc0 := cell1 hb0
  have hc1 := cell1 hb1
  have hc2 := cell1 hb2
  by_cases hi : Lib.indexByte rest 46 = -1
  ·obtain ⟨fn, tmps, assign, body, hy, hR⟩ := hY pre rest wr hle hJ1
   have h148' : CallsIn F (n - 1) Tryd.prog 148 #[.string (zcu rest), .string ⟨#[46]⟩] wr fun e w' => e = .returned (.int .i64 (-1)) /\ w' = wr := (h148 (zcu rest) wr).mono fun e w' h => by
    rw [zkr, hi] at h
    exact h
   gi_wp2_with (gi_at_call 148; refine h148'.mono ?_; clear h148'; rintro e w' ⟨rfl, rfl⟩)
   refine hR.mono ?_
   rintro e W' (⟨rfl, hJ3, hk3⟩ | ⟨rfl, hJx3⟩)
   ·gi_wp2
    go_end0
    exact ⟨⟨_, rfl⟩, .inl (by rw [hsp, zes hi]; exact hJ3)⟩
   ·gi_wp2
    go_end0
    exact ⟨⟨_, rfl⟩, .inr ⟨pre, rest, [], by rw [hsp, zes hi], hJx3⟩⟩
  ·obtain ⟨i, hi⟩ : ∃ i : Nat, Lib.indexByte rest 46 = (i : Int) := by
    have := Lib.indexByte_ge rest 46
    exact ⟨(Lib.indexByte rest 46).toNat, by omega⟩
   obtain ⟨hsp1, hil⟩ := zgs hi
   obtain ⟨fn, tmps, assign, body, hy, hR⟩ := hY pre (rest.take i) wr (by simp; omega) hJ1
   have h148' : CallsIn F (n - 1) Tryd.prog 148 #[.string (zcu rest), .string ⟨#[46]⟩] wr fun e w' => e = .returned (.int .i64 (i : Int)) /\ w' = wr := (h148 (zcu rest) wr).mono fun e w' h => by
    rw [zkr, hi] at h
    exact h
   rw [<- zri] at hy
   have hx1 : (0 : Int) <= (i : Int) := by omega
   have hx2 : (i : Int) <= ((zcu rest).size : Int) := by rw [zc9]; omega
   have hx3 : i <= (zcu rest).size := by rw [zc9]; omega
   have hx4 : ¬ ((i : Int) < 0) := by omega
   gi_wp2_with (gi_at_call 148; refine h148'.mono ?_; clear h148'; rintro e w' ⟨rfl, rfl⟩)
   refine hR.mono ?_
   rintro e W' (⟨rfl, hJ3, hk3⟩ | ⟨rfl, hJx3⟩)
   ·have hb0' := (hk3 p0 (Nat.le_refl _) (by omega)).trans hb0
    have hb1' := (hk3 (p0 + 1) (by omega) (by omega)).trans hb1
    have hb2' := (hk3 (p0 + 2) (by omega) (by omega)).trans hb2
    have hc0' := cell1 hb0'
    have hc1' := cell1 hb1'
    have hc2' := cell1 hb2'
    have hf0' := frz1 hb0'
    have hx5 : (0 : Int) <= (i : Int) + 1 := by omega
    have hx6 : (i : Int) + 1 <= ((zcu rest).size : Int) := by rw [zc9]; omega
    have hx7 : i + 1 <= (zcu rest).size := by rw [zc9]; omega
    gi_wp2
    rw [zc9, zro _ _ (by omega)]
    have hset : (W'.setCell ⟨p0, 0, none⟩ (.string (zcu (rest.drop (i + 1))))).heap[p0]? = some (.cells #[.string (zcu (rest.drop (i + 1)))] 9 (0, 0)) := by
     show (W'.heap.modify p0 _)[p0]? = _
     have hlt := (Array.getElem?_eq_some_iff.1 hb0').1
     rw [Array.getElem?_eq_getElem (by simpa using hlt), Array.getElem_modify_self, (Array.getElem?_eq_some_iff.1 hb0').2]
     rfl
    refine ⟨⟨pre ++ [rest.take i], rest.drop (i + 1), by rw [hsp, hsp1]; simp, by simp; omega, hJ _ _ _ hJ3, hset, ?_, ?_⟩, ?_⟩
    ·rw [Below.heap_setCell W' _ _ _ (by simp)]
     exact hb1'
    ·rw [Below.heap_setCell W' _ _ _ (by simp)]
     exact hb2'
    ·rw [zps (cell1 hset), zps hc0, zc9, zc9]
     simp
     omega
   ·gi_wp2
    refine bodyPost_ret (results_none rfl _ _ _) rfl ?_
    exact ⟨⟨_, rfl⟩, .inr ⟨pre, rest.take i, za5 (rest.drop (i + 1)), by rw [hsp, hsp1], hJx3⟩⟩
end Go.Proofs.YtmkpiekbpakigaaDoor
end
section
set_option linter.unusedVariables false
set_option linter.unusedSimpArgs false
namespace Go.Proofs.YtmkpiekbpakigaaDoor
open Go.RowKit Go.Proofs.Base Go.Proofs.Sym
def orI (c : Int) : Int := IntKind.u8.wrap ((BitVec.ofInt IntKind.u8.bits c ||| BitVec.ofInt IntKind.u8.bits 32).toNat)
def zds (c : Int) : Bool := decide (97 <= orI c) && decide (orI c <= 122)
def zm9 (c : Int) : Bool := zds c || (decide (48 <= c) && decide (c <= 57)) || decide (c = 95)
theorem zm3 (c : Int) : PCall Tryd.prog 150 [.int .u8 c] (fun _ => True) (fun r => r = .bool (zds c)) (fun _ _ => True) := by
 refine zar zac 11 [.tmp 2] Tryd.func150 rfl rfl (by kernel_rfl) rfl _ (leB rfl) Up.true (fun _ => Up.true) ?_
 refine zaf zac [] _ _ _ ?_
 refine zad (fun h => ?_) (fun h => ?_)
 ·have h : decide (97 <= orI c) = true := h
  refine ⟨_, rfl, Told.val ?_⟩
  unfold zds
  rw [h]
  rfl
 ·have h : decide (97 <= orI c) = false := h
  refine ⟨_, rfl, Told.val ?_⟩
  unfold zds
  rw [h]
  rfl
theorem zzd (c : Int) : PCall Tryd.prog 151 [.int .u8 c] (fun _ => True) (fun r => r = .bool (zm9 c)) (fun _ _ => True) := by
 refine zar zac 17 [.tmp 2] Tryd.func151 rfl rfl (by kernel_rfl) rfl _ (leB rfl) Up.true (fun _ => Up.true) ?_
 refine zaf zac [] _ _ _ ?_
 have hl := zm3 c
 have hsg : ∀ b, zds c = b -> zm9 c = (b || (decide (48 <= c) && decide (c <= 57)) || decide (c = 95)) := fun b h => by rw [zm9, h]
 cases hb : zds c <;> rw [hb] at hl <;> have hsg := hsg _ hb
 ·refine zae hl (fun _ => rfl) (fun _ _ => trivial) ?_
  rintro r rfl
  refine zad (fun h => ?_) (fun h => ?_)
  ·have h : decide (48 <= c) = true := h
   refine zad (fun h2 => ?_) (fun h2 => ?_)
   ·have h2 : decide (c <= 57) = true := h2
    exact ⟨_, rfl, Told.val (by rw [hsg, h, h2]; rfl)⟩
   ·have h2 : decide (c <= 57) = false := h2
    exact ⟨_, rfl, Told.val (by rw [hsg, h, h2]; rfl)⟩
  ·have h : decide (48 <= c) = false := h
   exact ⟨_, rfl, Told.val (by rw [hsg, h]; rfl)⟩
 ·refine zae hl (fun _ => rfl) (fun _ _ => trivial) ?_
  rintro r rfl
  exact ⟨_, rfl, Told.val (by rw [hsg]; rfl)⟩
def zj5 : List UInt8 -> Bool
 | [] => true
 | b :: r => zm9 (b.toNat : Int) && zj5 r
def zgk : List UInt8 -> Bool
 | [] => false
 | b :: r => zds (b.toNat : Int) && zj5 (b :: r)
theorem zq0 {l : List UInt8} {j : Nat} (h : j < l.length) : zj5 (l.drop j) = (zm9 ((l.getD j 0).toNat : Int) && zj5 (l.drop (j + 1))) := by
 rw [List.drop_eq_getElem_cons h, zj5]
 simp [List.getD, List.getElem?_eq_getElem h]
theorem zgq (s : ByteArray) : s.size = s.data.toList.length := by
 rw [Array.length_toList]
 rfl
set_option maxHeartbeats 1000000 in
theorem zzb (s : ByteArray) (hs : s.size <= 9223372036854775807) : PCall Tryd.prog 130 [.string s] (fun _ => True) (fun r => r = .bool (zgk s.data.toList)) (fun _ _ => True) := by
 have hl := zm3 ((s.data.toList.getD 0 0).toNat : Int)
 refine zar zac 23 [.tmp 2] Tryd.func130 rfl rfl (by kernel_rfl) rfl _ (leB rfl) Up.true (fun _ => Up.true) ?_
 refine zaf zac [] _ _ _ ?_
 have hsz := zgq s
 refine zad (fun h => ?_) (fun h => ?_)
 ·have h : decide (s = ⟨#[]⟩) = true := h
  have h := of_decide_eq_true h
  subst h
  exact ⟨_, rfl, Told.val rfl⟩
 have hpos : 0 < s.size := by
  have h : decide (s = ⟨#[]⟩) = false := h
  have h := of_decide_eq_false h
  refine Nat.pos_of_ne_zero fun h0 => h ?_
  exact ByteArray.ext (Array.eq_empty_of_size_eq_zero h0)
 have hpart : zgk s.data.toList = (zds ((s.data.toList.getD 0 0).toNat : Int) && zj5 s.data.toList) := by
  cases hd : s.data.toList with
  | nil =>
   rw [hd] at hsz
   have hsz : s.size = 0 := hsz
   omega
  | cons b r => rfl
 cases hb : zds ((s.data.toList.getD 0 0).toNat : Int) <;> rw [hb] at hl hpart
 ·refine ⟨{ n := 0 }, ⟨rfl, hpos⟩, ?_⟩
  refine zae hl (fun _ => rfl) (fun _ _ => trivial) ?_
  rintro r rfl
  exact ⟨_, rfl, Told.val (by rw [hpart]; rfl)⟩
 refine ⟨{ n := 0 }, ⟨rfl, hpos⟩, ?_⟩
 refine zae hl (fun _ => rfl) (fun _ _ => trivial) ?_
 rintro r rfl
 rw [Bool.true_and] at hpart
 refine ⟨⟨Nat, fun j => j <= s.size /\ zj5 (s.data.toList.drop j) = zgk s.data.toList,
  fun j => { s := [(0, .one (.v (.string s))), (13, .one (.v (.int .i64 (s.size : Int)))), (14, .one (.v (.int .i64 (j : Int))))], m := [], k := 0, f := [] },
  fun j => s.size - j, ⟨0, ⟨Nat.zero_le _, by rw [hpart]; rfl⟩, ?_⟩, ?_⟩⟩
 ·refine zaa [] rfl rfl rfl rfl (Nat.zero_le _) ?_ ?_ ?_
  ·exact ⟨⟨_, rfl, rfl⟩, ⟨_, rfl, rfl⟩, ⟨_, rfl, rfl⟩, trivial⟩
  ·exact trivial
  ·exact trivial
 rintro j ⟨hj, hsg⟩
 refine zad (fun hlt => ?_) (fun hge => ?_)
 ·have hlt : j < s.size := by
   have h : decide ((j : Int) < (s.size : Int)) = true := hlt
   have := of_decide_eq_true h
   omega
  have hc := zzd ((s.data.toList.getD j 0).toNat : Int)
  rw [zq0 (by omega)] at hsg
  cases hb2 : zm9 ((s.data.toList.getD j 0).toNat : Int) <;> rw [hb2] at hc hsg
  ·refine ⟨{ n := j }, ⟨rfl, hlt⟩, ?_⟩
   refine zae hc (fun _ => rfl) (fun _ _ => trivial) ?_
   rintro r rfl
   exact ⟨_, rfl, Told.val (by rw [<- hsg]; rfl)⟩
  ·refine ⟨{ n := j }, ⟨rfl, hlt⟩, ?_⟩
   refine zae hc (fun _ => rfl) (fun _ _ => trivial) ?_
   rintro r rfl
   refine ⟨j + 1, ⟨hlt, by rw [<- hsg]; rfl⟩, by simp only; omega, ?_⟩
   refine zaa [] rfl rfl rfl rfl (Nat.zero_le _) ?_ ?_ ?_
   ·exact ⟨⟨_, rfl, rfl⟩, ⟨_, rfl, rfl⟩, ⟨_, rfl, oneI (za9 (by omega) (by omega))⟩, trivial⟩
   ·exact trivial
   ·exact trivial
 ·have hge : s.size <= j := by
   have h : decide ((j : Int) < (s.size : Int)) = false := hge
   have := of_decide_eq_false h
   omega
  refine ⟨_, rfl, Told.val ?_⟩
  rw [<- hsg, List.drop_eq_nil_of_le (by omega)]
  rfl
end Go.Proofs.YtmkpiekbpakigaaDoor
end
section
set_option linter.unusedVariables false
set_option linter.unusedSimpArgs false
namespace Go.Proofs.YtmkpiekbpakigaaDoor
open Go.RowKit Go.Shelf
attribute [local go_sem] Oper.semAt_some
def zjr : List UInt8 := [32, 80, 114, 111, 112, 32, 84, 121, 112, 101, 32, 102, 117, 110, 32, 97, 108, 108, 32, 108, 101, 116, 32, 105, 110, 32, 111, 102, 32, 119, 105, 116, 104, 32, 97] ++ [120, 105, 111, 109, 32, 100, 101, 102, 32, 116, 104, 101, 111, 114, 101, 109, 32, 102, 97, 109, 105, 108, 121, 32, 117, 48, 32, 117, 49, 32, 117, 50, 32, 117, 51, 32]
def zed : ByteArray := ⟨zjr.toArray⟩
def spS : ByteArray := ⟨#[32]⟩
def zdm (s : ByteArray) : Bool := Lib.contains zed.data.toList (spS ++ s ++ spS).data.toList
theorem zlk : zed.size < 4294967281 := Nat.lt_of_le_of_lt (Nat.le_of_ble_eq_true (rfl : Nat.ble zed.size 100 = true)) (by decide)
theorem zj0 (s : ByteArray) (w : World) (m : Int) (hm : w.cell? ⟨1, 0, none⟩ = some (.int .i64 m)) :
  Calls Tryd.prog 128 #[.string zed, .string (spS ++ s ++ spS)] w fun e w' => e = .returned (.bool (zdm s)) /\ w' = w :=
 Tryd.strings_Contains zed (spS ++ s ++ spS) m w zlk hm
def zcd (s : ByteArray) : Bool := decide (s.size <= 32) && !zdm s && (za5 s.data.toList).all zgk
def zsg (p0 : Nat) (I : List (List UInt8) -> World -> Prop) (Ix : List (List UInt8) -> World -> Prop) (xs : List (List UInt8)) (W : World) : Exit -> Act -> World -> Prop
 | .normal, _, W' => KeepsOthers W W' /\ KpS p0 W W' /\ I xs W'
 | .ret, _, W' => KeepsOthers W W' /\ Ix xs W'
 | _, _, _ => False
theorem ziu {n : Nat} {g : Operand} {ps : Array Tmp} {assign body : Code} {Q : Exit -> Act -> World -> Prop} {a : Act} {w : World} {p0 : Nat} {s : List UInt8}
  (h1 : 2 <= n) (hg : a.eval g = .func (.func 167) #[] #[.pointer (some ⟨p0 + 1, 0, none⟩), .pointer (some ⟨p0, 0, none⟩), .pointer (some ⟨p0 + 2, 0, none⟩)])
  (hs : s.length <= 4611686018427387904) (hb0 : w.heap[p0]? = some (.cells #[.string (zcu s)] 9 (0, 0))) (hb1 : w.heap[p0 + 1]? = some (.cells #[.string ⟨#[46]⟩] 9 (0, 0))) (hb2 : w.heap[p0 + 2]? = some (.cells #[.int .i64 0] 3 (0, 0))) (hps : ps.size = 1)
  (I Ix : List (List UInt8) -> World -> Prop) (hI : OwnFrom w.heap.size I) (hIx : OwnFrom w.heap.size Ix) (hIs : ∀ pre W v, I pre W -> I pre (W.setCell ⟨p0, 0, none⟩ v)) (h0 : I [] w) (a₁ : List UInt8 -> Act)
  (hassign : ∀ (l : Nat) (x : List UInt8) (W : World) (K : Act -> World -> Prop), K (a₁ x) W ->
   assign.wpIn (Fence.wide.inRound l) (n - 1 - 1) Tryd.prog (Exit.then K (fun _ _ _ => False)) { tmps := (ps.zip #[.string (zcu x)]).foldl (fun t (p, v) => t.setIfInBounds p v) a.tmps, defers := [] } W)
  (hbody : ∀ (l : Nat) (pre : List (List UInt8)) (x : List UInt8) (W : World), x.length <= s.length -> I pre W -> body.wpIn (Fence.wide.inRound l) (n - 1 - 1) Tryd.prog (zsg p0 I Ix (pre ++ [x]) W) (a₁ x) W)
  (hdone : ∀ (D : Nat) (W : World), w.heap.size <= D -> I (za5 s) W -> W.heap[D]? = some (.deferred (some [])) -> Q .normal { a with defers := { target := .collected D, args := #[] } :: a.defers } W)
  (hstop : ∀ (D : Nat) (pre : List (List UInt8)) (x : List UInt8) (r : List (List UInt8)) (W : World), w.heap.size <= D -> za5 s = pre ++ x :: r -> Ix (pre ++ [x]) W -> W.heap[D]? = some (.deferred (some [])) -> Code.ret.wpIn Fence.wide n Tryd.prog Q { a with defers := { target := .collected D, args := #[] } :: a.defers } W) :
  (Code.rangeFunc g ps assign body).wpIn Fence.wide n Tryd.prog Q a w := by
 have hplt : p0 + 2 < w.heap.size := (Array.getElem?_eq_some_iff.1 hb2).1
 refine wpIn_rangeFunc ?_
 intro fn hfn
 obtain ⟨rec, hrec⟩ : ∃ rec : LoopState -> Option Code -> Loop, rec = fun st pe => { state := st, pending := pe, fn, tmps := a.tmps, params := ps, assign, body, defers := w.heap.size } := ⟨_, rfl⟩
 obtain ⟨W1, hW1⟩ : ∃ W1, (w.alloc (.deferred (some []))).alloc (.loop (rec .ready none)) = W1 := ⟨_, rfl⟩
 have hL1 : W1.heap[w.heap.size + 1]? = some (.loop (rec .ready none)) := by
  rw [<- hW1]; have := World.alloc_heap_new (w.alloc (.deferred (some []))) (.loop (rec .ready none)); rwa [World.size_alloc] at this
 have hK1 : W1.heap[w.heap.size]? = some (.deferred (some [])) := by
  rw [<- hW1]; exact (Below.heap_alloc _ _ _ (by simp)).trans (World.alloc_heap_new w _)
 have hI1 : I [] W1 := by rw [<- hW1]; exact hI.alloc _ (hI.alloc _ h0)
 have hold : ∀ k, k < w.heap.size -> W1.heap[k]? = w.heap[k]? := fun k hk => by
  rw [<- hW1]; exact (Below.heap_alloc _ _ _ (by simp; omega)).trans (Below.heap_alloc _ _ _ hk)
 refine ⟨w.heap.size + 1, [{ target := .collected w.heap.size, args := #[] }], W1, { target := .fn (.func 167) #[.pointer (some ⟨p0 + 1, 0, none⟩), .pointer (some ⟨p0, 0, none⟩), .pointer (some ⟨p0 + 2, 0, none⟩)], args := #[.func (.yield (w.heap.size + 1)) #[] #[]] }, W1, 167,
  #[.func (.yield (w.heap.size + 1)) #[] #[]] ++ #[.pointer (some ⟨p0 + 1, 0, none⟩), .pointer (some ⟨p0, 0, none⟩), .pointer (some ⟨p0 + 2, 0, none⟩)], W1, ?_, ?_, ?_, ?_, fun _ => by omega, ?_⟩
 ·rw [<- hW1, hrec]; exact run_enterLoop_outer _ _ _ _ _
 ·simp only [resolve, hg]
  simp [go_sem]
 ·intro f' hf'; trivial
 ·simp [invoke, go_sem, enters_of Tryd.func167 (by kernel_rfl) rfl]
 ·refine (zw5 Fence.wide (n - 1) (w.heap.size + 1) trivial trivial (fun s w => callsIn_wide.2 (Tryd.strings_Index_one s 46 w)) rfl (by omega) p0
   (fun pre W => I pre W /\ W.heap[w.heap.size + 1]? = some (.loop (rec .ready none)) /\ W.heap[w.heap.size]? = some (.deferred (some [])))
   (fun pre W => Ix pre W /\ W.heap[w.heap.size + 1]? = some (.loop (rec .done (some .ret))) /\ W.heap[w.heap.size]? = some (.deferred (some [])))
   (fun pre W v hs => ⟨hIs _ _ _ hs.1, (KeepsOthers.setCell W _ v).same _ _ hs.2.1 rfl, (KeepsOthers.setCell W _ v).same _ _ hs.2.2 rfl⟩)
   s ?_ W1 hs ((hold _ (by omega)).trans hb0) ((hold _ (by omega)).trans hb1) ((hold _ (by omega)).trans hb2) ⟨hI1, hL1, hK1⟩).mono ?_
  ·rintro pre x W hxl ⟨hi, hl, hk⟩
   have hlt : w.heap.size + 1 < W.heap.size := (Array.getElem?_eq_some_iff.1 hl).1
   have hy := run_yield (P := Tryd.prog) (args := #[.string (zcu x)]) hl (by rw [hrec]; simp [hps])
   rw [hrec] at hy
   refine ⟨fn, _, assign, body, hy, roundIn_of_wpIn hfn (hassign _ x W _ ⟨_, run_beginRound hl (by rw [hrec]), ?_⟩)⟩
   have hl2 : (W.putObj (w.heap.size + 1) (.loop { rec .ready none with state := .busy })).heap[w.heap.size + 1]? = some (.loop { rec .ready none with state := .busy }) := World.putObj_heap_same hlt
   have hk2 : (W.putObj (w.heap.size + 1) (.loop { rec .ready none with state := .busy })).heap[w.heap.size]? = some (.deferred (some [])) := (World.putObj_heap_other (by omega)).trans hk
   refine wpIn_mono (hbody _ pre x _ hxl (hI.putObj _ hi (by omega) hl rfl)) ?_
   have fin : ∀ (jump : Option Code) (W3 : World), KeepsOthers (W.putObj (w.heap.size + 1) (.loop { rec .ready none with state := .busy })) W3 ->
     (Instr.endRound (w.heap.size + 1) jump).run Tryd.prog W3 = .ok (.bool jump.isNone) (W3.putObj (w.heap.size + 1) (.loop (rec (if jump.isNone then .ready else .done) jump))) /\
     W3.heap[w.heap.size + 1]? = some (.loop { rec .ready none with state := .busy }) /\
     (W3.putObj (w.heap.size + 1) (.loop (rec (if jump.isNone then .ready else .done) jump))).heap[w.heap.size + 1]? = some (.loop (rec (if jump.isNone then .ready else .done) jump)) /\
     (W3.putObj (w.heap.size + 1) (.loop (rec (if jump.isNone then .ready else .done) jump))).heap[w.heap.size]? = some (.deferred (some [])) := fun jump W3 hk3 => by
    have hl3 := hk3.same _ _ hl2 rfl
    have := run_endRound (P := Tryd.prog) jump hl3
    rw [hrec] at this ⊢
    exact ⟨this, by rw [hrec] at hl3; exact hl3, World.putObj_heap_same (Array.getElem?_eq_some_iff.1 hl3).1, (World.putObj_heap_other (by omega)).trans (hk3.same _ _ hk2 rfl)⟩
   rintro e a3 W3 hp
   cases e with
   | normal =>
    obtain ⟨hk3, hkp, hi3⟩ := hp
    obtain ⟨hr, hl3, hl4, hk4⟩ := fin none W3 hk3
    refine ⟨_, _, hr, .inl ⟨rfl, ⟨hI.putObj _ hi3 (by omega) hl3 rfl, hl4, hk4⟩, fun k hk1 hk2 => ?_⟩⟩
    rw [World.putObj_heap_other (by omega), hkp k hk1 hk2, World.putObj_heap_other (by omega)]
   | ret =>
    obtain ⟨hk3, hi3⟩ := hp
    obtain ⟨hr, hl3, hl4, hk4⟩ := fin (some .ret) W3 hk3
    exact ⟨_, _, hr, .inr ⟨rfl, hIx.putObj _ hi3 (by omega) hl3 rfl, hl4, hk4⟩⟩
   | exit id => exact hp.elim
   | goto t => exact hp.elim
   | panic ch => exact hp.elim
   | outgrown => exact hp.elim
  ·rintro e W2 ⟨⟨v, rfl⟩, (⟨hi, hl, hk⟩ | ⟨pre, x, r, hsp, hi, hl, hk⟩)⟩
   ·exact ⟨none, _, by have := run_endLoop (P := Tryd.prog) hl (by rw [hrec]; simp); rw [hrec] at this; exact this, hdone _ _ (Nat.le_refl _) (hI.putObj _ hi (by omega) hl rfl) ((World.putObj_heap_other (by omega)).trans hk)⟩
   ·exact ⟨some .ret, _, by have := run_endLoop (P := Tryd.prog) hl (by rw [hrec]; simp); rw [hrec] at this; exact this, hstop _ pre x r _ (Nat.le_refl _) hsp (hIx.putObj _ hi (by omega) hl rfl) ((World.putObj_heap_other (by omega)).trans hk)⟩
theorem zjz (s : ByteArray) (w : World) : Calls Tryd.prog 129 #[.string s, .string ⟨#[46]⟩] w fun e w' =>
  e = .returned (.func (.func 167) #[] #[.pointer (some ⟨w.heap.size + 1, 0, none⟩), .pointer (some ⟨w.heap.size, 0, none⟩), .pointer (some ⟨w.heap.size + 2, 0, none⟩)]) /\
  w' = ((w.alloc (.cells #[.string s] 9)).alloc (.cells #[.string ⟨#[46]⟩] 9)).alloc (.cells #[.int .i64 0] 3) := by
 have h149 : CallsIn Fence.wide 2 Tryd.prog 149 #[.string s, .string ⟨#[46]⟩, .int .i64 0] w fun e w' =>
  e = .returned (.func (.func 167) #[] #[.pointer (some ⟨w.heap.size + 1, 0, none⟩), .pointer (some ⟨w.heap.size, 0, none⟩), .pointer (some ⟨w.heap.size + 2, 0, none⟩)]) /\
  w' = ((w.alloc (.cells #[.string s] 9)).alloc (.cells #[.string ⟨#[46]⟩] 9)).alloc (.cells #[.int .i64 0] 3) := by
  refine callsIn_of_wp Tryd.func149 rfl trivial ?_ rfl
  simp only [Tryd.ntmps149, List.size_toArray, List.length_cons, List.length_nil, Nat.reduceAdd, Nat.reduceSub, Array.replicate_succ, Array.replicate_zero, List.push_toArray, List.append_toArray, List.nil_append, List.cons_append]
  gi_wp2
  go_ret
  exact ⟨by simp, rfl⟩
 refine (callsIn_wide (n := 3)).1 ?_
 refine callsIn_of_wp Tryd.func129 rfl trivial ?_ rfl
 simp only [Tryd.ntmps129, List.size_toArray, List.length_cons, List.length_nil, Nat.reduceAdd, Nat.reduceSub, Array.replicate_succ, Array.replicate_zero, List.push_toArray, List.append_toArray, List.nil_append, List.cons_append]
 have f149 : Fence.wide.fn 149 := trivial
 gi_wp2_with (gi_at_call 149; refine h149.mono ?_; clear h149; rintro e w' ⟨rfl, rfl⟩)
 go_ret
 exact ⟨rfl, rfl⟩
theorem zq9 (x : List UInt8) (hx : x.length <= 9223372036854775807) (W : World) : Calls Tryd.prog 130 #[.string (zcu x)] W fun e w' => e = .returned (.bool (zgk x)) /\ Below W.heap.size W w' := by
 refine ((zzb (zcu x) hx).run W (fun _ => False) (fun _ h => h.elim) trivial).mono ?_
 rintro en w' ⟨r, rfl, rfl, _, hb⟩
 exact ⟨rfl, hb⟩
theorem zi7 {W W' : World} (h : Below W.heap.size W W') : KeepsOthers W W' := ⟨h.size, fun k o hk ho => (h.block k (Array.getElem?_eq_some_iff.1 hk).1).trans hk⟩
set_option maxRecDepth 100000 in
set_option maxHeartbeats 4000000 in
theorem zrf (s : ByteArray) (w : World) (m : Int) (hm : w.cell? ⟨1, 0, none⟩ = some (.int .i64 m)) :
  Calls Tryd.prog 87 #[.string s] w fun e w' => e = .returned (.bool (zcd s)) /\ Below w.heap.size w w' := by
 refine (callsIn_wide (n := 9)).1 ?_
 refine callsIn_of_wp_marks Tryd.func87 rfl trivial ?_ rfl
 simp only [Tryd.ntmps87, List.size_toArray, List.length_cons, List.length_nil, Nat.reduceAdd, Nat.reduceSub, Array.replicate_succ, Array.replicate_zero, List.push_toArray, List.append_toArray, List.nil_append, List.cons_append]
 obtain ⟨w0, hw0⟩ : ∃ w0, w.alloc (.cells #[.bool false] 4) = w0 := ⟨_, rfl⟩
 have hB0 : Below w.heap.size w w0 := by rw [<- hw0]; exact (Below.refl _ w).alloc (Nat.le_refl _) _
 have hs0 : w0.heap.size = w.heap.size + 1 := by rw [<- hw0]; simp
 have hlt1 : 1 < w.heap.size := by
  refine Nat.lt_of_not_le fun hle => ?_
  unfold World.cell? at hm
  rw [Array.getElem?_eq_none (by exact hle)] at hm
  cases hm
 have hm0 : w0.cell? ⟨1, 0, none⟩ = some (.int .i64 m) := (hB0.cell (p := ⟨1, 0, none⟩) hlt1).trans hm
 have f128 : Fence.wide.fn 128 := trivial
 have f129 : Fence.wide.fn 129 := trivial
 have f130 : Fence.wide.fn 130 := trivial
 have hcon : CallsIn Fence.wide (9 - 1) Tryd.prog 128 #[.string zed, .string (spS ++ s ++ spS)] w0 fun e w' => e = .returned (.bool (zdm s)) /\ w' = w0 := callsIn_wide.2 (zj0 s w0 m hm0)
 obtain ⟨r0, hr0'⟩ : ∃ r, zdm s = r := ⟨_, rfl⟩
 rw [hr0'] at hcon
 have hr0 : w0.heap[w.heap.size]? = some (.cells #[.bool false] 4 (0, 0)) := by rw [<- hw0]; exact World.alloc_heap_new w _
 have hc0 : w0.cell? ⟨w.heap.size, 0, none⟩ = some (.bool false) := by simp [World.cell?, hr0]
 have hf0 : w0.frozen? ⟨w.heap.size, 0, none⟩ = false := by simp [World.frozen?, hr0]
 have fin : ∀ {W : World} {b : Bool} {tm : Array Value}, Below w.heap.size w W -> W.cell? ⟨w.heap.size, 0, none⟩ = some (.bool b) -> b = zcd s -> tm[2]? = some (.pointer (some ⟨w.heap.size, 0, none⟩)) ->
   bodyPostM Fence.wide 9 Tryd.prog Tryd.f87 (fun e w' => e = .returned (.bool (zcd s)) /\ Below w.heap.size w w') .ret { tmps := tm, defers := [] } W := by
  rintro W b tm hB hc rfl htm
  refine ⟨.bool (zcd s), ?_, rfl, hB⟩
  simp [results, Tryd.f87, go_sem, htm, hc, asAddr]
 by_cases hsz : 32 < s.size
 ·have hx1 : (32 : Int) < (s.size : Int) := by omega
  gi_wp2
  exact fin (hB0.setCell (p := ⟨w.heap.size, 0, none⟩) (Nat.le_refl _) _) (World.cell?_setCell_same' _ _ _ (by rw [hc0]; rfl)) (by simp [zcd]; omega) rfl
 ·have hx1 : ¬ (32 : Int) < (s.size : Int) := by omega
  cases r0 with
  | true =>
   gi_wp2_with (gi_at_call 128; refine hcon.mono ?_; clear hcon; rintro e w' ⟨rfl, rfl⟩)
   exact fin (hB0.setCell (p := ⟨w.heap.size, 0, none⟩) (Nat.le_refl _) _) (World.cell?_setCell_same' _ _ _ (by rw [hc0]; rfl)) (by simp [zcd, hr0']) rfl
  | false =>
   gi_wp2_with (first | (gi_at_call 128; refine hcon.mono ?_; clear hcon; rintro e w' ⟨rfl, rfl⟩) | (gi_at_call 129; refine (callsIn_wide.2 (zjz s _)).mono ?_; rintro e w1 ⟨rfl, hw1⟩))
   obtain ⟨w1, hw1⟩ : ∃ x, ((w'.alloc (.cells #[.string s] 9)).alloc (.cells #[.string ⟨#[46]⟩] 9)).alloc (.cells #[.int .i64 0] 3) = x := ⟨_, rfl⟩
   rw [hw1]
   have hs1 : w1.heap.size = w.heap.size + 4 := by rw [<- hw1]; simp; omega
   have hB1 : Below w.heap.size w w1 := by
    rw [<- hw1]
    exact ((hB0.alloc (by omega) _).alloc (by simp; omega) _).alloc (by simp; omega) _
   have hl1 : ∀ k, k < w'.heap.size -> w1.heap[k]? = w'.heap[k]? := fun k hk => by
    rw [<- hw1]
    exact ((Below.heap_alloc _ _ _ (by simp; omega)).trans (Below.heap_alloc _ _ _ (by simp; omega))).trans (Below.heap_alloc _ _ _ hk)
   have hq0 : w1.heap[w.heap.size + 1]? = some (.cells #[.string (zcu s.data.toList)] 9 (0, 0)) := by
    rw [<- hw1, zq3, <- hs0]
    exact ((Below.heap_alloc _ _ _ (by simp; omega)).trans (Below.heap_alloc _ _ _ (by simp))).trans (World.alloc_heap_new w' _)
   have hq1 : w1.heap[w.heap.size + 1 + 1]? = some (.cells #[.string ⟨#[46]⟩] 9 (0, 0)) := by
    rw [<- hw1, <- hs0]
    refine (Below.heap_alloc _ _ _ (by simp)).trans ?_
    have := World.alloc_heap_new (w'.alloc (.cells #[.string s] 9)) (.cells #[.string ⟨#[46]⟩] 9)
    rwa [World.size_alloc] at this
   have hq2 : w1.heap[w.heap.size + 1 + 2]? = some (.cells #[.int .i64 0] 3 (0, 0)) := by
    rw [<- hw1, <- hs0]
    have := World.alloc_heap_new ((w'.alloc (.cells #[.string s] 9)).alloc (.cells #[.string ⟨#[46]⟩] 9)) (.cells #[.int .i64 0] 3)
    rwa [World.size_alloc, World.size_alloc] at this
   have hr1 : w1.heap[w.heap.size]? = some (.cells #[.bool false] 4 (0, 0)) := (hl1 _ (by omega)).trans hr0
   have hcr : ∀ {W : World}, W.heap[w.heap.size]? = some (.cells #[.bool false] 4 (0, 0)) -> W.cell? ⟨w.heap.size, 0, none⟩ = some (.bool false) /\ W.frozen? ⟨w.heap.size, 0, none⟩ = false := fun h => ⟨by simp [World.cell?, h], by simp [World.frozen?, h]⟩
   refine ziu (s := s.data.toList) (p0 := w.heap.size + 1) (by omega) rfl (by rw [<- zgq]; omega) hq0 hq1 hq2 rfl
    (fun pre W => ((pre.all zgk = true /\ W.heap[w.heap.size]? = some (.cells #[.bool false] 4 (0, 0))) /\ w.heap.size + 4 <= W.heap.size) /\ Below w.heap.size w W)
    (fun pre W => (pre.all zgk = false /\ W.cell? ⟨w.heap.size, 0, none⟩ = some (.bool false)) /\ Below w.heap.size w W)
    ?hI ?hIx ?hIs ⟨⟨⟨rfl, hr1⟩, by omega⟩, hB1⟩
    (fun x => { tmps := #[.string s, undef, .pointer (some ⟨w.heap.size, 0, none⟩), .string (zcu x), .string s, .int .i64 s.size, .bool false, .bool false, .string s, .string (⟨#[32]⟩ ++ s), .string (⟨#[32]⟩ ++ s ++ ⟨#[32]⟩), .bool false, .bool false, .string s, .func (.func 167) #[] #[.pointer (some ⟨w.heap.size + 1 + 1, 0, none⟩), .pointer (some ⟨w.heap.size + 1, 0, none⟩), .pointer (some ⟨w.heap.size + 1 + 2, 0, none⟩)], .string (zcu x), undef, undef, undef], defers := [] }) ?assign ?body ?done ?stop
   case hI =>
    refine OwnFrom.and (Own.from (fun s A B row hs hg hr => ⟨⟨hs.1.1, (grownBy_keeps_cells hg hr hs.1.2 rfl).trans hs.1.2⟩, Nat.le_trans hs.2 hg.size⟩) _) (ownFrom_below (Nat.le_refl _) (by omega))
   case hIx =>
    refine OwnFrom.and (Own.from (fun s A B row hs hg hr => ⟨hs.1, cell_kept hs.2 hg hr⟩) _) (ownFrom_below (Nat.le_refl _) (by omega))
   case hIs =>
    rintro pre W v ⟨⟨⟨h1, h2⟩, h4⟩, h3⟩
    exact ⟨⟨⟨h1, (Below.heap_setCell W _ _ _ (by simp)).trans h2⟩, by simpa [World.setCell] using h4⟩, h3.setCell (p := ⟨w.heap.size + 1, 0, none⟩) (by simp) _⟩
   case assign =>
    intro l x W K hK
    gi_wp2
    exact hK
   case body =>
    rintro l pre x W hxl ⟨⟨⟨hp, hc⟩, hz⟩, hB⟩
    have hd : 1 <= 9 - 1 - 1 := by omega
    have hpc := zq9 x (by rw [<- zgq] at hxl; omega) W
    obtain ⟨b, hb⟩ : ∃ b, zgk x = b := ⟨_, rfl⟩
    rw [hb] at hpc
    have hall : (pre ++ [x]).all zgk = b := by simp [hp, hb]
    cases b with
    | true =>
     gi_wp2_with (gi_at_call 130; refine (CallsIn.inRound l (callsIn_wide.2 hpc)).mono ?_; clear hpc; rintro e w2 ⟨rfl, hb2⟩)
     exact ⟨zi7 hb2, fun k hk1 hk2 => hb2.block k (by omega), ⟨⟨hall, (hb2.block _ (by omega)).trans hc⟩, Nat.le_trans hz hb2.size⟩, hB.trans (hb2.mono (by omega))⟩
    | false =>
     gi_wp2_with (gi_at_call 130; refine (CallsIn.inRound l (callsIn_wide.2 hpc)).mono ?_; clear hpc; rintro e w2 ⟨rfl, hb2⟩; have hc2 := hcr ((hb2.block _ (by omega)).trans hc); have hc3 := hc2.1; have hc4 := hc2.2)
     exact ⟨(zi7 hb2).trans (KeepsOthers.setCell _ _ _), ⟨hall, World.cell?_setCell_same' _ _ _ (by rw [hc3]; rfl)⟩, (hB.trans (hb2.mono (by omega))).setCell (p := ⟨w.heap.size, 0, none⟩) (Nat.le_refl _) _⟩
   case done =>
    rintro D W hD ⟨⟨⟨hp, hc⟩, hz⟩, hB⟩ hK
    have hcW := (hcr hc).1
    have hfW := (hcr hc).2
    gi_wp2
    have hK' := (KeepsOthers.setCell W ⟨w.heap.size, 0, none⟩ (.bool true)).same D _ hK rfl
    refine ⟨by simp, .inl ⟨_, _, rfl, run_takeDeferred hK', ?_⟩⟩
    have hc5 := cell_kept (World.cell?_setCell_same' W ⟨w.heap.size, 0, none⟩ (.bool true) (by rw [hcW]; rfl)) (grownBy_putObj' _ D (.deferred none)) (fun r e => by cases e; exact ⟨_, hK', rfl⟩)
    refine ⟨.bool true, by simp [results, Tryd.f87, go_sem, hc5, asAddr], by simp [zcd, hr0', hp]; omega, ?_⟩
    exact (hB.setCell (p := ⟨w.heap.size, 0, none⟩) (Nat.le_refl _) _).trans (belowK_b (w := w1) (by omega) _ D _ _ hD hK' rfl rfl)
   case stop =>
    rintro D pre x r W hD hsp ⟨⟨hp, hc⟩, hB⟩ hK
    gi_wp2
    refine ⟨by simp, .inl ⟨_, _, rfl, run_takeDeferred hK, ?_⟩⟩
    have hc5 := cell_kept hc (grownBy_putObj' _ D (.deferred none)) (fun r e => by cases e; exact ⟨_, hK, rfl⟩)
    refine ⟨.bool false, by simp [results, Tryd.f87, go_sem, hc5, asAddr], ?_, ?_⟩
    ·have : (za5 s.data.toList).all zgk = false := by
      rw [hsp]
      simp only [List.all_append, List.all_cons, List.all_nil, Bool.and_true] at hp ⊢
      rw [<- Bool.and_assoc, hp]
      rfl
     simp [zcd, this]
    ·exact hB.trans (belowK_b (w := w1) (by omega) _ D _ _ hD hK rfl rfl)
def ML (w : World) : Prop := ∃ m, w.cell? ⟨1, 0, none⟩ = some (.int .i64 m)
theorem ML.up : Sym.Up ML := Sym.Up.ex fun m => Sym.Up.cell _ _
theorem zoe (s : ByteArray) : Sym.PCall Tryd.prog 87 [.string s] ML (fun r => r = .bool (zcd s)) (fun _ _ => True) :=
 Sym.pcall_val ML ML.up ⟨_, Tryd.func87, by kernel_rfl, rfl⟩ fun w h => (by obtain ⟨m, hm⟩ := h; exact zrf s w m hm)
end Go.Proofs.YtmkpiekbpakigaaDoor
end
section
set_option linter.unusedVariables false
set_option linter.unusedSimpArgs false
namespace Go.Proofs.YtmkpiekbpakigaaDoor
open Go.RowKit Go.Proofs.Base Go.Proofs.Sym
def zfm (s : ByteArray) : Bool := decide (s = ⟨#[]⟩)
def zbb (k n : Int) (s : ByteArray) (vars : Int) : Bool :=
 if k = 1 then decide (0 <= n) && (decide (n < vars) && zfm s)
 else if k = 4 then decide (n = 0) && zcd s
 else if k = 9 then decide (0 <= n) && (decide (n <= 31) && zcd s)
 else decide (n = 0) && zfm s
theorem zog (k n : Int) (s : ByteArray) (la : Option Addr) (lc : Nat) (ls : List Lv) (aa : Option Addr) (ac : Nat) (us : List TT) (vars : Int) : PCall Tryd.prog 161 [(TT.mk k n s la lc ls aa ac us).val, .int .i64 vars] ML (fun r => r = .bool (zbb k n s vars)) (fun _ _ => True) := by
 have hw := zoe s
 obtain ⟨wb, hwb⟩ : ∃ b, zcd s = b := ⟨_, rfl⟩
 rw [hwb] at hw
 refine zar zac 56 [.tmp 4] Tryd.func161 rfl rfl (by kernel_rfl) rfl _ (leB rfl) ML.up (fun _ => Up.true) ?_
 refine zaf zac [] _ _ _ ?_
 refine zad (fun hk => ?_) (fun hk => ?_)
 ·have hk : decide (k = 1) = true := hk
  have hk := of_decide_eq_true hk
  have hsp : zbb k n s vars = (decide (0 <= n) && (decide (n < vars) && zfm s)) := by rw [zbb, if_pos hk]
  rw [hsp]
  refine zad (fun h1 => ?_) (fun h1 => ?_)
  ·have h1 : decide (0 <= n) = true := h1
   refine zad (fun h2 => ?_) (fun h2 => ?_)
   ·have h2 : decide (n < vars) = true := h2
    exact ⟨_, rfl, Told.val (by rw [h1, h2]; rfl)⟩
   ·have h2 : decide (n < vars) = false := h2
    exact ⟨_, rfl, Told.val (by rw [h1, h2]; rfl)⟩
  ·have h1 : decide (0 <= n) = false := h1
   exact ⟨_, rfl, Told.val (by rw [h1]; rfl)⟩
 have hk : decide (k = 1) = false := hk
 have hk1 := of_decide_eq_false hk
 refine zad (fun hk => ?_) (fun hk => ?_)
 ·have hk : decide (k = 4) = true := hk
  have hk := of_decide_eq_true hk
  have hsp : zbb k n s vars = (decide (n = 0) && wb) := by rw [zbb, if_neg hk1, if_pos hk, hwb]
  rw [hsp]
  refine zad (fun h1 => ?_) (fun h1 => ?_)
  ·have h1 : decide (n = 0) = true := h1
   refine zae hw (fun _ => rfl) (fun w h => h.1) ?_
   rintro r rfl
   exact ⟨_, rfl, Told.val (by rw [h1]; rfl)⟩
  ·have h1 : decide (n = 0) = false := h1
   exact ⟨_, rfl, Told.val (by rw [h1]; rfl)⟩
 have hk : decide (k = 4) = false := hk
 have hk2 := of_decide_eq_false hk
 refine zad (fun hk => ?_) (fun hk => ?_)
 ·have hk : decide (k = 9) = true := hk
  have hk := of_decide_eq_true hk
  have hsp : zbb k n s vars = (decide (0 <= n) && (decide (n <= 31) && wb)) := by rw [zbb, if_neg hk1, if_neg hk2, if_pos hk, hwb]
  rw [hsp]
  refine zad (fun h1 => ?_) (fun h1 => ?_)
  ·have h1 : decide (0 <= n) = true := h1
   refine zad (fun h2 => ?_) (fun h2 => ?_)
   ·have h2 : decide (n <= 31) = true := h2
    refine zae hw (fun _ => rfl) (fun w h => h.1) ?_
    rintro r rfl
    exact ⟨_, rfl, Told.val (by rw [h1, h2]; rfl)⟩
   ·have h2 : decide (n <= 31) = false := h2
    exact ⟨_, rfl, Told.val (by rw [h1, h2]; rfl)⟩
  ·have h1 : decide (0 <= n) = false := h1
   exact ⟨_, rfl, Told.val (by rw [h1]; rfl)⟩
 have hk : decide (k = 9) = false := hk
 have hk3 := of_decide_eq_false hk
 have hsp : zbb k n s vars = (decide (n = 0) && zfm s) := by rw [zbb, if_neg hk1, if_neg hk2, if_neg hk3]
 rw [hsp]
 refine zad (fun h1 => ?_) (fun h1 => ?_)
 ·have h1 : decide (n = 0) = true := h1
  exact ⟨_, rfl, Told.val (by rw [h1]; rfl)⟩
 ·have h1 : decide (n = 0) = false := h1
  exact ⟨_, rfl, Told.val (by rw [h1]; rfl)⟩
end Go.Proofs.YtmkpiekbpakigaaDoor
end
section
set_option linter.unusedVariables false
set_option linter.unusedSimpArgs false
namespace Go.Proofs.YtmkpiekbpakigaaDoor
open Go.RowKit Go.Proofs.Base Go.Proofs.Sym
def zc8 (k n : Int) (s : ByteArray) (ls : List Lv) (len : Int) (p v d : Int) : Bool :=
 !decide (k < 1) && (!decide (9 < k) && (!decide (200 < d) && (decide (len = zg2 k) && (zbb k n s v && zci k ls p))))
mutual
def allT (p v d : Int) : Tm -> Bool
 | .mk k n s ls args => zc8 k n s ls args.length p v d && zcj k p v d 0 args
def zcj (k p v d : Int) : Nat -> List Tm -> Bool
 | _, [] => true
 | i, t :: r => allT p (IntKind.i64.wrap (v + zbi k i)) (IntKind.i64.wrap (d + zbi k i)) t && zcj k p v d (i + 1) r
end
theorem zbs (k n : Int) (s : ByteArray) (la : Option Addr) (lc : Nat) (ls : List Lv) (aa : Option Addr) (ac : Nat) (us : List TT) : (TT.mk k n s la lc ls aa ac us).tm = .mk k n s ls (us.map TT.tm) := by
 rw [TT.tm]
def znz : List Nat := [0, 1, 3, 7, 15, 31, 63, 127, 255, 511, 1023, 2047, 4095, 8191, 16383, 32767, 8191, 8191, 139263, 466943, 991231, 2097151, 4194303, 8388607, 16777215, 16777215, 67108863, 134217727, 268435455, 536870911, 1073741823, 1073741823, 4294967295, 8589934591, 17179869183]
set_option maxHeartbeats 4000000 in
theorem zaas (p v d : Int) (t : TT) : PCall Tryd.prog 139 [t.val, .int .i64 p, .int .i64 v, .int .i64 d] (fun w => ML w /\ TTIn w t) (fun r => r = .bool (allT p v d t.tm)) (fun _ _ => True) := by
 induction hsz : SizeOf.sizeOf t using Nat.strongRecOn generalizing t v d with
 | _ z ih =>
 obtain ⟨k, n, s, la, lc, ls, aa, ac, us⟩ := t
 subst hsz
 by_cases hal : us.length <= 9223372036854775807 /\ ls.length <= 9223372036854775807
 rotate_left
 ·refine ⟨zhz Tryd.func139 (by kernel_rfl) (by kernel_rfl), fun _ => Up.true, fun w H hH hp => ?_⟩
  have := hp.2.node
  have h1 := this.hac
  have h2 := this.ham
  have h3 := this.hlc
  have h4 := this.hlm
  simp only [maxLen] at h2 h4
  omega
 obtain ⟨hal, hll⟩ := hal
 have hup : Up fun w => ML w /\ TTIn w (.mk k n s la lc ls aa ac us) := ML.up.and (TTIn.upS _)
 have hnum := zog k n s la lc ls aa ac us v
 have hlev := fun h1 h9 => zre k n s la lc ls aa ac us p h1 h9 hll
 have hpart := zmj k
 have hspec : allT p v d (TT.mk k n s la lc ls aa ac us).tm = (zc8 k n s ls us.length p v d && zcj k p v d 0 (us.map TT.tm)) := by
  rw [zbs, allT, List.length_map]
 rw [hspec]
 refine zar zac 70 [.tmp 8] Tryd.func139 rfl rfl (by kernel_rfl) rfl _ (leB rfl) hup (fun _ => Up.true) ?_
 refine zaf zac [] _ _ _ ?_
 by_cases c1 : k < 1
 ·have e1 : decide (k < 1) = true := decide_eq_true c1
  have hno : (zc8 k n s ls us.length p v d && zcj k p v d 0 (us.map TT.tm)) = false := by unfold zc8; rw [e1]; rfl
  rw [hno]
  refine .inl ⟨35, znz, fun vs i => match i with
   | 3 => { b := some true }
   | _ => {}, by kernel_rfl, rfl, by kernel_rfl, by kernel_rfl, by kernel_rfl, by decide, fun vals => ?_⟩
  refine ⟨fun _ => e1, ?_⟩
  intro _
  exact ⟨_, rfl, Told.val rfl⟩
 have e1 : decide (k < 1) = false := decide_eq_false c1
 by_cases c2 : 9 < k
 ·have e2 : decide (9 < k) = true := decide_eq_true c2
  have hno : (zc8 k n s ls us.length p v d && zcj k p v d 0 (us.map TT.tm)) = false := by unfold zc8; rw [e1, e2]; rfl
  rw [hno]
  refine .inl ⟨35, znz, fun vs i => match i with
   | 3 => { b := some false }
   | 8 => { b := some true }
   | _ => {}, by kernel_rfl, rfl, by kernel_rfl, by kernel_rfl, by kernel_rfl, by decide, fun vals => ?_⟩
  refine ⟨fun _ => e1, ?_⟩
  refine ⟨fun _ => e2, ?_⟩
  intro _
  exact ⟨_, rfl, Told.val rfl⟩
 have e2 : decide (9 < k) = false := decide_eq_false c2
 by_cases c3 : 200 < d
 ·have e3 : decide (200 < d) = true := decide_eq_true c3
  have hno : (zc8 k n s ls us.length p v d && zcj k p v d 0 (us.map TT.tm)) = false := by unfold zc8; rw [e1, e2, e3]; rfl
  rw [hno]
  refine .inl ⟨35, znz, fun vs i => match i with
   | 3 => { b := some false }
   | 8 => { b := some false }
   | 12 => { b := some true }
   | _ => {}, by kernel_rfl, rfl, by kernel_rfl, by kernel_rfl, by kernel_rfl, by decide, fun vals => ?_⟩
  refine ⟨fun _ => e1, ?_⟩
  refine ⟨fun _ => e2, ?_⟩
  refine ⟨fun _ => e3, ?_⟩
  intro _
  exact ⟨_, rfl, Told.val rfl⟩
 have e3 : decide (200 < d) = false := decide_eq_false c3
 have hlt : k.toNat < 10 := by omega
 have hpart := hpart (by omega) (by omega)
 by_cases c4 : (us.length : Int) = zg2 k
 rotate_left
 ·have e4 : (!decide ((us.length : Int) = zg2 k)) = true := by rw [decide_eq_false c4]; rfl
  have e4' := decide_eq_false c4
  have hno : (zc8 k n s ls us.length p v d && zcj k p v d 0 (us.map TT.tm)) = false := by unfold zc8; rw [e1, e2, e3, e4']; rfl
  rw [hno]
  refine .inl ⟨35, znz, fun vs i => match i with
   | 3 => { b := some false }
   | 8 => { b := some false }
   | 12 => { b := some false }
   | 16 => { R := fun r => r = zbt, nf := fun _ => zbt }
   | 19 => { c := { n := k.toNat, u := some (ze1 k) } }
   | 23 => { b := some true }
   | _ => {}, by kernel_rfl, rfl, by kernel_rfl, by kernel_rfl, by kernel_rfl, by decide, fun vals => ?_⟩
  refine ⟨fun _ => e1, ?_⟩
  refine ⟨fun _ => e2, ?_⟩
  refine ⟨fun _ => e3, ?_⟩
  refine ⟨fun _ => ⟨zex, fun _ _ => trivial, fun _ h => h⟩, ?_⟩
  refine ⟨fun _ => ⟨(Int.toNat_of_nonneg (by omega)).symm, hlt, hpart _ rfl rfl⟩, ?_⟩
  refine ⟨fun _ => e4, ?_⟩
  intro _
  exact ⟨_, rfl, Told.val rfl⟩
 have e4 : (!decide ((us.length : Int) = zg2 k)) = false := by rw [decide_eq_true c4]; rfl
 have e4' := decide_eq_true c4
 obtain ⟨b5, hb5⟩ : ∃ b, zbb k n s v = b := ⟨_, rfl⟩
 rw [hb5] at hnum
 cases b5 with
 | false =>
  have e5 : (!false) = true := rfl
  have hno : (zc8 k n s ls us.length p v d && zcj k p v d 0 (us.map TT.tm)) = false := by unfold zc8; rw [e1, e2, e3, e4', hb5]; rfl
  rw [hno]
  refine .inl ⟨35, znz, fun vs i => match i with
   | 3 => { b := some false }
   | 8 => { b := some false }
   | 12 => { b := some false }
   | 16 => { R := fun r => r = zbt, nf := fun _ => zbt }
   | 19 => { c := { n := k.toNat, u := some (ze1 k) } }
   | 23 => { b := some false }
   | 26 => { pre := ML, R := fun r => r = .bool false, nf := fun _ => .bool false }
   | 29 => { b := some true }
   | _ => {}, by kernel_rfl, rfl, by kernel_rfl, by kernel_rfl, by kernel_rfl, by decide, fun vals => ?_⟩
  refine ⟨fun _ => e1, ?_⟩
  refine ⟨fun _ => e2, ?_⟩
  refine ⟨fun _ => e3, ?_⟩
  refine ⟨fun _ => ⟨zex, fun _ _ => trivial, fun _ h => h⟩, ?_⟩
  refine ⟨fun _ => ⟨(Int.toNat_of_nonneg (by omega)).symm, hlt, hpart _ rfl rfl⟩, ?_⟩
  refine ⟨fun _ => e4, ?_⟩
  refine ⟨fun _ => ⟨hnum, fun _ h => h.2.1.1, fun _ h => h⟩, ?_⟩
  refine ⟨fun _ => e5, ?_⟩
  intro _
  exact ⟨_, rfl, Told.val rfl⟩
 | true =>
 have e5 : (!true) = false := rfl
 obtain ⟨b6, hb6⟩ : ∃ b, zci k ls p = b := ⟨_, rfl⟩
 have hlev := fun h1 h9 => hlev h1 h9
 rw [hb6] at hlev
 cases b6 with
 | false =>
  have hno : (zc8 k n s ls us.length p v d && zcj k p v d 0 (us.map TT.tm)) = false := by unfold zc8; rw [e1, e2, e3, e4', hb5, hb6]; rfl
  rw [hno]
  refine .inl ⟨35, znz, fun vs i => match i with
   | 3 => { b := some false }
   | 8 => { b := some false }
   | 12 => { b := some false }
   | 16 => { R := fun r => r = zbt, nf := fun _ => zbt }
   | 19 => { c := { n := k.toNat, u := some (ze1 k) } }
   | 23 => { b := some false }
   | 26 => { pre := ML, R := fun r => r = .bool true, nf := fun _ => .bool true }
   | 29 => { b := some false }
   | 32 => { pre := fun w => TTIn w (TT.mk k n s la lc ls aa ac us), R := fun r => r = .bool false, nf := fun _ => .bool false }
   | _ => {}, by kernel_rfl, rfl, by kernel_rfl, by kernel_rfl, by kernel_rfl, by decide, fun vals => ?_⟩
  refine ⟨fun _ => e1, ?_⟩
  refine ⟨fun _ => e2, ?_⟩
  refine ⟨fun _ => e3, ?_⟩
  refine ⟨fun _ => ⟨zex, fun _ _ => trivial, fun _ h => h⟩, ?_⟩
  refine ⟨fun _ => ⟨(Int.toNat_of_nonneg (by omega)).symm, hlt, hpart _ rfl rfl⟩, ?_⟩
  refine ⟨fun _ => e4, ?_⟩
  refine ⟨fun _ => ⟨hnum, fun _ h => h.2.1.1, fun _ h => h⟩, ?_⟩
  refine ⟨fun _ => e5, ?_⟩
  refine ⟨fun _ => ⟨hlev (by omega) (by omega), fun _ h => h.2.2.1.2, fun _ h => h⟩, ?_⟩
  intro _
  exact ⟨_, rfl, Told.val rfl⟩
 | true =>
 have hyes : (zc8 k n s ls us.length p v d && zcj k p v d 0 (us.map TT.tm)) = zcj k p v d 0 (us.map TT.tm) := by unfold zc8; rw [e1, e2, e3, e4', hb5, hb6]; rfl
 rw [hyes]
 refine .inl ⟨35, znz, fun vs i => match i with
   | 3 => { b := some false }
   | 8 => { b := some false }
   | 12 => { b := some false }
   | 16 => { R := fun r => r = zbt, nf := fun _ => zbt }
   | 19 => { c := { n := k.toNat, u := some (ze1 k) } }
   | 23 => { b := some false }
   | 26 => { pre := ML, R := fun r => r = .bool true, nf := fun _ => .bool true }
   | 29 => { b := some false }
   | 32 => { pre := fun w => TTIn w (TT.mk k n s la lc ls aa ac us), R := fun r => r = .bool true, nf := fun _ => .bool true }
   | _ => {}, by kernel_rfl, rfl, by kernel_rfl, by kernel_rfl, by kernel_rfl, by decide, fun vals => ?_⟩
 refine ⟨fun _ => e1, ?_⟩
 refine ⟨fun _ => e2, ?_⟩
 refine ⟨fun _ => e3, ?_⟩
 refine ⟨fun _ => ⟨zex, fun _ _ => trivial, fun _ h => h⟩, ?_⟩
 refine ⟨fun _ => ⟨(Int.toNat_of_nonneg (by omega)).symm, hlt, hpart _ rfl rfl⟩, ?_⟩
 refine ⟨fun _ => e4, ?_⟩
 refine ⟨fun _ => ⟨hnum, fun _ h => h.2.1.1, fun _ h => h⟩, ?_⟩
 refine ⟨fun _ => e5, ?_⟩
 refine ⟨fun _ => ⟨hlev (by omega) (by omega), fun _ h => h.2.2.1.2, fun _ h => h⟩, ?_⟩
 intro _
 refine ⟨⟨Nat, fun j => j <= us.length /\ zcj k p v d j ((us.map TT.tm).drop j) = zcj k p v d 0 (us.map TT.tm),
  fun j => { s := [(1, .one (.v (.int .i64 p))), (2, .one (.v (.int .i64 v))), (3, .one (.v (.int .i64 d))), (4, .one (.p 0 0)), (48, .one (.v (.slice aa us.length ac))), (49, .one (.v (.int .i64 (us.length : Int)))), (50, .one (.v (.int .i64 (j : Int))))], m := [(0, .cells 41 ((TT.mk k n s la lc ls aa ac us).cells.map SA.v))], k := 1, f := [fun w => ML w /\ TTIn w (TT.mk k n s la lc ls aa ac us)] },
  fun j => us.length - j, ⟨0, ⟨Nat.zero_le _, rfl⟩, ?_⟩, ?_⟩⟩
 ·exact zaa [(0, .blk 0)] rfl rfl rfl rfl (Nat.zero_le _) ⟨⟨_, rfl, rfl⟩, ⟨_, rfl, rfl⟩, ⟨_, rfl, rfl⟩, ⟨_, rfl, rfl⟩, ⟨_, rfl, rfl⟩, ⟨_, rfl, rfl⟩, ⟨_, rfl, rfl⟩, trivial⟩ ⟨⟨_, rfl, rfl⟩, trivial⟩ ⟨⟨hup, fun w h => h.2.2.2.1⟩, trivial⟩
 rintro j ⟨hj, hA⟩
 refine zad (fun hlt => ?_) (fun hge => ?_)
 ·have hlt : j < us.length := by
   have h : decide ((j : Int) < (us.length : Int)) = true := hlt
   have := of_decide_eq_true h
   omega
  obtain ⟨u, hu⟩ : ∃ u, us[j]? = some u := ⟨_, List.getElem?_eq_getElem hlt⟩
  have hmem := List.mem_of_getElem? hu
  have hrec := ih _ (zd5 hmem) (IntKind.i64.wrap (v + zbi k j)) (IntKind.i64.wrap (d + zbi k j)) u rfl
  have hstep : zcj k p v d 0 (us.map TT.tm) = (allT p (IntKind.i64.wrap (v + zbi k j)) (IntKind.i64.wrap (d + zbi k j)) u.tm && zcj k p v d (j + 1) ((us.map TT.tm).drop (j + 1))) := by
   rw [<- hA, List.drop_eq_getElem_cons (by simpa using hlt), zcj]
   simp [(List.getElem?_eq_some_iff.1 hu).2]
  obtain ⟨uk, un, uname, ula, ulc, uls, uaa, uac, uus⟩ := u
  obtain ⟨b, hb⟩ : ∃ b, allT p (IntKind.i64.wrap (v + zbi k j)) (IntKind.i64.wrap (d + zbi k j)) (TT.mk uk un uname ula ulc uls uaa uac uus).tm = b := ⟨_, rfl⟩
  rw [hb] at hrec hstep
  refine ⟨{ n := j }, ⟨rfl, hlt, fun w h => ?_⟩, ?_⟩
  ·obtain ⟨⟨a, ha, _⟩, _⟩ := h.1.2.arg hu
   rw [ha]
   rfl
  refine ⟨{ cs := (TT.mk uk un uname ula ulc uls uaa uac uus).cells }, ⟨TT.cells_one (TT.mk uk un uname ula ulc uls uaa uac uus), rfl, fun w h => ?_⟩, ?_⟩
  ·obtain ⟨⟨a, ha, hc⟩, _⟩ := h.1.2.arg hu
   exact ⟨_, by rw [ha]; rfl, hc⟩
  refine zae (zm6 k j) (fun _ => rfl) (fun _ _ => trivial) ?_
  rintro r rfl
  refine zae hrec (fun _ => rfl) (fun w h => ⟨h.2.1.1, (h.2.1.2.arg hu).2⟩) ?_
  rintro r rfl
  cases b with
  | false => exact ⟨_, rfl, Told.val (by rw [hstep]; rfl)⟩
  | true =>
   refine ⟨j + 1, ⟨hlt, by rw [hstep]; rfl⟩, by simp only; omega, ?_⟩
   exact zaa [(0, .blk 0)] rfl rfl rfl rfl (Nat.zero_le _) ⟨⟨_, rfl, rfl⟩, ⟨_, rfl, rfl⟩, ⟨_, rfl, rfl⟩, ⟨_, rfl, rfl⟩, ⟨_, rfl, rfl⟩, ⟨_, rfl, rfl⟩, ⟨_, rfl, oneI (za9 (by omega) (by omega))⟩, trivial⟩ ⟨⟨_, rfl, rfl⟩, trivial⟩ ⟨⟨hup, fun w h => h.2.2.1⟩, trivial⟩
 ·have hge : us.length <= j := by
   have h : decide ((j : Int) < (us.length : Int)) = false := hge
   have := of_decide_eq_false h
   omega
  exact ⟨_, rfl, Told.val (by rw [<- hA, List.drop_eq_nil_of_le (by simpa using hge)]; simp [zcj])⟩
end Go.Proofs.YtmkpiekbpakigaaDoor
end
section
set_option linter.unusedVariables false
set_option linter.unusedSimpArgs false
namespace Go.Proofs.YtmkpiekbpakigaaDoor
open Go.RowKit Go.Proofs.Base Go.Proofs.Sym
def cntB (c : Int) (ls : List Lv) : Int := IntKind.i64.wrap (c + IntKind.i64.wrap (1 + (ls.length : Int)))
mutual
def visT (c : Int) : Tm -> Int × Bool
 | .mk _ _ _ ls args => match decide (cntB c ls <= 3000) with
  | true => zdk (cntB c ls) args
  | false => (cntB c ls, false)
def zdk (c : Int) : List Tm -> Int × Bool
 | [] => (c, true)
 | t :: r => match (visT c t).2 with
  | true => zdk (visT c t).1 r
  | false => ((visT c t).1, false)
end
def zs3 (b : Bool) (c : Int) : LRes := { v := .one (.v (.bool b)), m := [(0, .cells 3 [.v (.int .i64 c)])], k := 1 }
def ttA (t : TT) : SV := .agg (t.cells.map SA.v)
theorem zsi (k n : Int) (s : ByteArray) (la : Option Addr) (lc : Nat) (ls : List Lv) (aa : Option Addr) (ac : Nat) (us : List TT) (d c : Int) :
  zav Tryd.prog 159 [ttA (TT.mk k n s la lc ls aa ac us), .one (.v (.int .i64 d)), .one (.p 0 0)] [(0, .cells 3 [.v (.int .i64 c)])] 1 (fun _ => True) (fun _ : Unit => True) (fun _ => zs3 (decide (cntB c ls <= 3000)) (cntB c ls)) := by
 refine zas zac 14 [.tmp 5] Tryd.func159 rfl rfl (by kernel_rfl) rfl _ (leB rfl) Up.true ?_
 refine zaf zac [] _ _ _ ?_
 refine ⟨_, rfl, (), trivial, rfl, ?_⟩
 exact zaa [(0, .blk 0)] rfl rfl rfl rfl (Nat.le_refl _) ⟨⟨_, rfl, rfl⟩, trivial⟩ ⟨⟨_, rfl, rfl⟩, trivial⟩ ⟨⟨Up.true, fun _ _ => trivial⟩, trivial⟩
set_option maxHeartbeats 2000000 in
theorem zxa (t : TT) (d c : Int) : zav Tryd.prog 158 [ttA t, .one (.v (.int .i64 d)), .one (.fn 159 [] [.p 0])] [(0, .cells 3 [.v (.int .i64 c)])] 1 (fun w => TTIn w t) (fun _ : Unit => True) (fun _ => zs3 (visT c t.tm).2 (visT c t.tm).1) := by
 induction hsz : SizeOf.sizeOf t using Nat.strongRecOn generalizing t d c with
 | _ z ih =>
 obtain ⟨k, n, s, la, lc, ls, aa, ac, us⟩ := t
 subst hsz
 by_cases hal : us.length <= 9223372036854775807
 rotate_left
 ·refine ⟨TTIn.upS _, fun cx e w hw hn0 he hm hlt => ?_⟩
  have := hm.fact.1.node
  have h1 := this.hac
  have h2 := this.ham
  simp only [maxLen] at h2
  omega
 have hn1 := zsi k n s la lc ls aa ac us d c
 have hspec : visT c (TT.mk k n s la lc ls aa ac us).tm = (match decide (cntB c ls <= 3000) with | true => zdk (cntB c ls) (us.map TT.tm) | false => (cntB c ls, false)) := by
  rw [zbs, visT]
 obtain ⟨b, hb⟩ : ∃ b, decide (cntB c ls <= 3000) = b := ⟨_, rfl⟩
 rw [hb] at hn1 hspec
 rw [hspec]
 obtain ⟨c1, hc1⟩ : ∃ c1, cntB c ls = c1 := ⟨_, rfl⟩
 rw [hc1] at hn1 ⊢
 refine zas zac 33 [.tmp 6] Tryd.func158 rfl rfl (by kernel_rfl) rfl _ (leB rfl) (TTIn.upS _) ?_
 refine zaf zac [] _ _ _ ?_
 refine zab [0] hn1 rfl ⟨rfl, trivial⟩ rfl rfl (fun _ _ => trivial) (fun _ _ => ⟨rfl, rfl⟩) (fun _ _ => ?_)
 cases b with
 | false =>
  refine ⟨_, rfl, (), trivial, rfl, ?_⟩
  exact zaa [(0, .blk 0)] rfl rfl rfl rfl (Nat.le_refl _) ⟨⟨_, rfl, rfl⟩, trivial⟩ ⟨⟨_, rfl, rfl⟩, trivial⟩ ⟨⟨Up.true, fun _ _ => trivial⟩, trivial⟩
 | true =>
  refine ⟨⟨Nat × Int, fun x => x.1 <= us.length /\ zdk x.2 ((us.map TT.tm).drop x.1) = zdk c1 (us.map TT.tm),
   fun x => { s := [(1, .one (.v (.int .i64 d))), (2, .one (.fn 159 [] [.p 0])), (3, .one (.p 1 0)), (15, .one (.v (.slice aa us.length ac))), (16, .one (.v (.int .i64 (us.length : Int)))), (17, .one (.v (.int .i64 (x.1 : Int))))], m := [(0, .cells 3 [.v (.int .i64 x.2)]), (1, .cells 41 ((TT.mk k n s la lc ls aa ac us).cells.map SA.v))], k := 2, f := [fun w => TTIn w (TT.mk k n s la lc ls aa ac us)], b := 1 },
   fun x => us.length - x.1, ⟨(0, c1), ⟨Nat.zero_le _, rfl⟩, ?_⟩, ?_⟩⟩
  ·exact zaa [(1, .blk 1), (0, .blk 0)] rfl rfl rfl rfl (leB rfl) (rs rfl rfl) (rm rfl rfl) ⟨⟨TTIn.upS _, fun w h => h.2.1⟩, trivial⟩
  rintro ⟨j, cj⟩ ⟨hj, hA⟩
  simp only at hj hA
  refine zad (fun hlt => ?_) (fun hge => ?_)
  ·have hlt : j < us.length := by
    have h : decide ((j : Int) < (us.length : Int)) = true := hlt
    have := of_decide_eq_true h
    omega
   obtain ⟨u, hu⟩ : ∃ u, us[j]? = some u := ⟨_, List.getElem?_eq_getElem hlt⟩
   have hmem := List.mem_of_getElem? hu
   have hrec := ih _ (zd5 hmem) u (IntKind.i64.wrap (d + zbi k j)) cj rfl
   have hstep : zdk c1 (us.map TT.tm) = match (visT cj u.tm).2 with | true => zdk (visT cj u.tm).1 ((us.map TT.tm).drop (j + 1)) | false => ((visT cj u.tm).1, false) := by
    rw [<- hA, List.drop_eq_getElem_cons (by simpa using hlt), zdk]
    simp [(List.getElem?_eq_some_iff.1 hu).2]
   obtain ⟨uk, un, uname, ula, ulc, uls, uaa, uac, uus⟩ := u
   obtain ⟨b, hb⟩ : ∃ b, (visT cj (TT.mk uk un uname ula ulc uls uaa uac uus).tm).2 = b := ⟨_, rfl⟩
   obtain ⟨c2, hc2⟩ : ∃ c2, (visT cj (TT.mk uk un uname ula ulc uls uaa uac uus).tm).1 = c2 := ⟨_, rfl⟩
   rw [hb, hc2] at hrec hstep
   refine ⟨{ n := j }, ⟨rfl, hlt, fun w h => ?_⟩, ?_⟩
   ·obtain ⟨⟨a, ha, _⟩, _⟩ := h.1.arg hu
    rw [ha]
    rfl
   refine ⟨{ cs := (TT.mk uk un uname ula ulc uls uaa uac uus).cells }, ⟨TT.cells_one (TT.mk uk un uname ula ulc uls uaa uac uus), rfl, fun w h => ?_⟩, ?_⟩
   ·obtain ⟨⟨a, ha, hc⟩, _⟩ := h.1.arg hu
    exact ⟨_, by rw [ha]; rfl, hc⟩
   refine .inl ⟨8, [0, 0, 0, 4, 0, 28, 62, 0, 255, 511], fun vs i => match i with
    | 5 => { R := fun r => r = .int .i64 (zbi k j), nf := fun _ => .int .i64 (zbi k j) }
    | _ => {}, by kernel_rfl, rfl, by kernel_rfl, by kernel_rfl, by kernel_rfl, by decide, fun vals => ?_⟩
   refine ⟨fun _ => ⟨zm6 k j, fun _ _ => trivial, fun _ h => h⟩, ?_⟩
   intro _
   refine zab [0] hrec rfl ⟨rfl, trivial⟩ rfl rfl (fun w h => (h.2.1.arg hu).2) (fun _ _ => ⟨rfl, rfl⟩) (fun _ _ => ?_)
   cases b with
   | false =>
    refine ⟨_, rfl, (), trivial, rfl, ?_⟩
    rw [hstep]
    exact zaa [(0, .blk 0)] rfl rfl rfl rfl (Nat.le_refl _) ⟨⟨_, rfl, rfl⟩, trivial⟩ ⟨⟨_, rfl, rfl⟩, trivial⟩ ⟨⟨Up.true, fun _ _ => trivial⟩, trivial⟩
   | true =>
    refine ⟨(j + 1, c2), ⟨hlt, hstep.symm⟩, by simp only; omega, ?_⟩
    exact zaa [(1, .blk 1), (0, .blk 0)] rfl rfl rfl rfl (leB rfl) ⟨⟨_, rfl, rfl⟩, ⟨_, rfl, rfl⟩, ⟨_, rfl, rfl⟩, ⟨_, rfl, rfl⟩, ⟨_, rfl, rfl⟩, ⟨_, rfl, oneI (za9 (by omega) (by omega))⟩, trivial⟩ ⟨⟨_, rfl, rfl⟩, ⟨_, rfl, rfl⟩, trivial⟩ ⟨⟨TTIn.upS _, fun w h => h.2.2.1⟩, trivial⟩
  ·have hge : us.length <= j := by
    have h : decide ((j : Int) < (us.length : Int)) = false := hge
    have := of_decide_eq_false h
    omega
   have hend : zdk c1 (us.map TT.tm) = (cj, true) := by
    rw [<- hA, List.drop_eq_nil_of_le (by simpa using hge), zdk]
   refine ⟨_, rfl, (), trivial, rfl, ?_⟩
   rw [hend]
   exact zaa [(0, .blk 0)] rfl rfl rfl rfl (Nat.le_refl _) ⟨⟨_, rfl, rfl⟩, trivial⟩ ⟨⟨_, rfl, rfl⟩, trivial⟩ ⟨⟨Up.true, fun _ _ => trivial⟩, trivial⟩
def zcb (t : Tm) : Int := if 3001 < (visT 0 t).1 then 3001 else (visT 0 t).1
theorem zk4 (t : TT) : PCall Tryd.prog 138 [t.val] (fun w => TTIn w t) (fun r => r = .int .i64 (zcb t.tm)) (fun _ _ => True) := by
 have hv := zxa t 0 0
 unfold zcb
 obtain ⟨b, hb⟩ : ∃ b, (visT 0 t.tm).2 = b := ⟨_, rfl⟩
 obtain ⟨c, hc⟩ : ∃ c, (visT 0 t.tm).1 = c := ⟨_, rfl⟩
 rw [hb, hc] at hv
 rw [hc]
 obtain ⟨k, n, s, la, lc, ls, aa, ac, us⟩ := t
 refine zar zac 9 [.tmp 2] Tryd.func138 rfl rfl (by kernel_rfl) rfl _ (leB rfl) (TTIn.upS _) (fun _ => Up.true) ?_
 refine zaf zac [] _ _ _ ?_
 refine zab [1] hv rfl ⟨rfl, trivial⟩ rfl rfl (fun w h => h.1) (fun _ _ => ⟨rfl, rfl⟩) (fun _ _ => ?_)
 exact ⟨_, rfl, Told.val rfl⟩
def zbm (p v : Int) (t : Tm) : Bool := decide (0 <= p) && (decide (p <= 4) && (decide (0 <= v) && (decide (v <= 1099511627776) && (decide (zcb t <= 3000) && allT p v 0 t))))
theorem zvl (t : TT) (p v : Int) : PCall Tryd.prog 102 [t.val, .int .i64 p, .int .i64 v] (fun w => ML w /\ TTIn w t) (fun r => r = .bool (zbm p v t.tm)) (fun _ _ => True) := by
 have hn := zk4 t
 have ha := zaas p v 0 t
 have hup : Up fun w => ML w /\ TTIn w t := ML.up.and (TTIn.upS _)
 have hsp : ∀ (b1 b2 b3 b4 b5 b6 : Bool), decide (0 <= p) = b1 -> decide (p <= 4) = b2 -> decide (0 <= v) = b3 -> decide (v <= 1099511627776) = b4 -> decide (zcb t.tm <= 3000) = b5 -> allT p v 0 t.tm = b6 -> zbm p v t.tm = (b1 && (b2 && (b3 && (b4 && (b5 && b6))))) := by
  intro b1 b2 b3 b4 b5 b6 e1 e2 e3 e4 e5 e6
  rw [zbm, e1, e2, e3, e4, e5, e6]
 obtain ⟨b6, e6⟩ : ∃ b, allT p v 0 t.tm = b := ⟨_, rfl⟩
 rw [e6] at ha
 obtain ⟨nv, hnv⟩ : ∃ x, zcb t.tm = x := ⟨_, rfl⟩
 rw [hnv] at hn hsp
 obtain ⟨R, hR⟩ : ∃ R, zbm p v t.tm = R := ⟨_, rfl⟩
 rw [hR] at hsp ⊢
 obtain ⟨k, n, s, la, lc, ls, aa, ac, us⟩ := t
 refine zar zac 32 [.tmp 6] Tryd.func102 rfl rfl (by kernel_rfl) rfl _ (leB rfl) hup (fun _ => Up.true) ?_
 refine zaf zac [] _ _ _ ?_
 refine zad (fun h => ?_) (fun h => ?_)
 rotate_left
 ·have e1 : decide (0 <= p) = false := h
  exact ⟨_, rfl, Told.val (by rw [hsp _ _ _ _ _ _ e1 rfl rfl rfl rfl e6]; rfl)⟩
 have e1 : decide (0 <= p) = true := h
 refine zad (fun h => ?_) (fun h => ?_)
 rotate_left
 ·have e2 : decide (p <= 4) = false := h
  exact ⟨_, rfl, Told.val (by rw [hsp _ _ _ _ _ _ e1 e2 rfl rfl rfl e6]; rfl)⟩
 have e2 : decide (p <= 4) = true := h
 refine zad (fun h => ?_) (fun h => ?_)
 rotate_left
 ·have e3 : decide (0 <= v) = false := h
  exact ⟨_, rfl, Told.val (by rw [hsp _ _ _ _ _ _ e1 e2 e3 rfl rfl e6]; rfl)⟩
 have e3 : decide (0 <= v) = true := h
 refine zad (fun h => ?_) (fun h => ?_)
 rotate_left
 ·have e4 : decide (v <= 1099511627776) = false := h
  exact ⟨_, rfl, Told.val (by rw [hsp _ _ _ _ _ _ e1 e2 e3 e4 rfl e6]; rfl)⟩
 have e4 : decide (v <= 1099511627776) = true := h
 refine zae hn (fun _ => rfl) (fun w h => h.1.2) ?_
 rintro r rfl
 refine zad (fun h => ?_) (fun h => ?_)
 rotate_left
 ·have e5 : decide (nv <= 3000) = false := h
  exact ⟨_, rfl, Told.val (by rw [hsp _ _ _ _ _ _ e1 e2 e3 e4 e5 e6]; rfl)⟩
 have e5 : decide (nv <= 3000) = true := h
 refine zae ha (fun _ => rfl) (fun w h => h.2.1) ?_
 rintro r rfl
 exact ⟨_, rfl, Told.val (by rw [hsp _ _ _ _ _ _ e1 e2 e3 e4 e5 e6]; rfl)⟩
end Go.Proofs.YtmkpiekbpakigaaDoor
end
section
set_option linter.unusedVariables false
set_option linter.unusedSimpArgs false
namespace Go.Proofs.YtmkpiekbpakigaaDoor
open Go.RowKit Go.Proofs.Base Go.Proofs.Sym
def zaa5 : Tm -> Bool
 | .mk k n s ls us => decide (k = 0) && (decide (n = 0) && (zfm s && (decide ((ls.length : Int) = 0) && decide ((us.length : Int) = 0))))
end Go.Proofs.YtmkpiekbpakigaaDoor
end
section
set_option linter.unusedVariables false
set_option linter.unusedSimpArgs false
namespace Go.Proofs.YtmkpiekbpakigaaDoor
open Go.RowKit Go.Proofs.Base Go.Proofs.Sym
def bc (l : List Nat) : List Value := l.map fun (b : Nat) => Value.int .u8 (b : Int)
end Go.Proofs.YtmkpiekbpakigaaDoor
end
section
set_option linter.unusedVariables false
set_option linter.unusedSimpArgs false
namespace Go.Proofs.YtmkpiekbpakigaaDoor
open Go.RowKit Go.Proofs.Base Go.Proofs.Sym
structure BtIn (w : World) (A : Option Addr) (c : Nat) (l : List Nat) : Prop where
 cells : SlAt w A (bc l)
 nil : A = none -> l.length = 0 /\ c = 0
 le : l.length <= c
 max : c <= maxLen
end Go.Proofs.YtmkpiekbpakigaaDoor
end
section
set_option linter.unusedVariables false
set_option linter.unusedSimpArgs false
namespace Go.Proofs.YtmkpiekbpakigaaDoor
open Go.RowKit Go.Proofs.Base Go.Proofs.Sym Go.Lib
structure zab0 (k n : Int) (s : ByteArray) (ls : List Lv) (len : Nat) : Prop where
 num : k = 1 \/ k = 9 -> 0 <= n /\ n <= 1099511627776
 name : s.size <= 32
 levels : ls.length <= 4
 args : len <= 3
end Go.Proofs.YtmkpiekbpakigaaDoor
end
section
set_option linter.unusedVariables false
set_option linter.unusedSimpArgs false
namespace Go.Proofs.YtmkpiekbpakigaaDoor
open Go.RowKit Go.Proofs.Base Go.Proofs.Sym
structure DD where
 kind : Int
 params : Int
 name : ByteArray
 ty : TT
 val : TT
 fixed : Int
 ca : Option Addr
 cc : Nat
 cts : List (ByteArray × TT)
def DD.cells (d : DD) : List Value := .int .i64 d.kind :: .int .i64 d.params :: .string d.name :: (d.ty.cells ++ (d.val.cells ++ [.int .i64 d.fixed, .slice d.ca d.cts.length d.cc]))
structure DM where
 kind : Int
 params : Int
 name : ByteArray
 ty : Tm
 val : Tm
 fixed : Int
 cts : List (ByteArray × Tm)
def zz2 (c : ByteArray × TT) : List Value := .string c.1 :: c.2.cells
def zabh (w : World) (ca : Option Addr) (cts : List (ByteArray × TT)) : Prop := ∀ (j : Nat) c, cts[j]? = some c -> (∃ a, ca = some a /\ ∀ l u, (zz2 c)[l]? = some u -> w.cell? ((a.add (j * 6)).add l) = some u) /\ TTIn w c.2 /\ c.1.size <= maxLen
structure DDIn (w : World) (d : DD) : Prop where
 hkind : I64 d.kind
 hparams : I64 d.params
 hname : d.name.size <= maxLen
 hty : TTIn w d.ty
 hval : TTIn w d.val
 hfixed : I64 d.fixed
 hcts : zabh w d.ca d.cts
 hca : d.ca = none -> d.cts.length = 0 /\ d.cc = 0
 hcc : d.cts.length <= d.cc
 hcm : d.cc <= maxLen
def valB (k : Int) : Bool := decide (k = 2) || decide (k = 3)
section
variable (k p : Int) (nm : ByteArray) (t1 t2 : TT) (fx : Int) (ca : Option Addr) (cc : Nat) (cts : List (ByteArray × TT))
end
end Go.Proofs.YtmkpiekbpakigaaDoor
end
section
set_option linter.unusedVariables false
set_option linter.unusedSimpArgs false
namespace Go.Proofs.YtmkpiekbpakigaaDoor
open Go.RowKit Go.Proofs.Base Go.Proofs.Sym
theorem zgi {k n : Int} {s : ByteArray} {ls : List Lv} {len p v d : Int} (h : zc8 k n s ls len p v d = true) :
  1 <= k /\ k <= 9 /\ d <= 200 /\ len = zg2 k /\ zbb k n s v = true /\ zci k ls p = true := by
 unfold zc8 at h
 simp only [Bool.and_eq_true, Bool.not_eq_true', decide_eq_false_iff_not, decide_eq_true_eq] at h
 obtain ⟨h1, h2, h3, h4, h5, h6⟩ := h
 exact ⟨by omega, by omega, by omega, h4, h5, h6⟩
theorem zky (k : Int) : 0 <= zh5 k /\ zh5 k <= 4 := by
 unfold zh5
 split
 ·omega
 ·split <;> omega
theorem zek {k : Int} {ls : List Lv} {p : Int} (h : zci k ls p = true) : (ls.length : Int) <= zh5 k /\ (k = 3 -> ls.length ≠ 0) /\ ls.any (zbp p) = false := by
 unfold zci at h
 simp only [Bool.and_eq_true, Bool.not_eq_true', Bool.or_eq_false_iff, decide_eq_false_iff_not, Bool.and_eq_false_iff] at h
 obtain ⟨⟨h1, h2⟩, h3⟩ := h
 refine ⟨by omega, fun hk h0 => ?_, h3⟩
 rcases h2 with h2 | h2
 ·exact h2 hk
 ·rw [h0] at h2
  exact h2 rfl
theorem znd {s : ByteArray} (h : zfm s = true) : s = ⟨#[]⟩ := of_decide_eq_true h
theorem zj6 {k n : Int} {s : ByteArray} {v : Int} (h : zbb k n s v = true) :
  (k = 1 -> 0 <= n /\ n < v /\ s = ⟨#[]⟩) /\ (k = 4 -> n = 0 /\ zcd s = true) /\ (k = 9 -> 0 <= n /\ n <= 31 /\ zcd s = true) /\ (k ≠ 1 -> k ≠ 4 -> k ≠ 9 -> n = 0 /\ s = ⟨#[]⟩) := by
 unfold zbb at h
 refine ⟨fun hk => ?_, fun hk => ?_, fun hk => ?_, fun h1 h4 h9 => ?_⟩
 ·rw [if_pos hk] at h
  simp only [Bool.and_eq_true, decide_eq_true_eq] at h
  exact ⟨h.1, h.2.1, znd h.2.2⟩
 ·rw [if_neg (by omega), if_pos hk] at h
  simp only [Bool.and_eq_true, decide_eq_true_eq] at h
  exact h
 ·rw [if_neg (by omega), if_neg (by omega), if_pos hk] at h
  simp only [Bool.and_eq_true, decide_eq_true_eq] at h
  exact ⟨h.1, h.2.1, h.2.2⟩
 ·rw [if_neg h1, if_neg h4, if_neg h9] at h
  simp only [Bool.and_eq_true, decide_eq_true_eq] at h
  exact ⟨h.1, znd h.2⟩
mutual
def cntT : Tm -> Int
 | .mk _ _ _ ls args => 1 + ls.length + ze4 args
def ze4 : List Tm -> Int
 | [] => 0
 | t :: r => cntT t + ze4 r
end
mutual
theorem zib : ∀ (t : Tm), 1 <= cntT t
 | .mk _ _ _ ls args => by
  have := zfl args
  unfold cntT
  omega
theorem zfl : ∀ (ts : List Tm), 0 <= ze4 ts
 | [] => by simp [ze4]
 | t :: r => by
  have h1 := zib t
  have h2 := zfl r
  unfold ze4
  omega
end
theorem zue {c : Int} {ls : List Lv} (h0 : 0 <= c) (h1 : c <= 3000) (hl : (ls.length : Int) <= 4) : cntB c ls = c + (1 + ls.length) := by
 unfold cntB
 rw [za9 (n := 1 + (ls.length : Int)) (by omega) (by omega), za9 (by omega) (by omega)]
mutual
theorem ztu (p v d : Int) : ∀ (t : Tm) (c : Int), allT p v d t = true -> 0 <= c -> c <= 3000 -> ((visT c t).2 = true /\ (visT c t).1 = c + cntT t /\ c + cntT t <= 3000) \/ ((visT c t).2 = false /\ 3000 < (visT c t).1)
 | .mk k n s ls args, c, h, h0, h1 => by
  unfold allT at h
  rw [Bool.and_eq_true] at h
  obtain ⟨_, _, _, _, _, hl⟩ := zgi h.1
  have hl := (zek hl).1
  have hl4 := (zky k).2
  have hc := zue (ls := ls) h0 h1 (by omega)
  unfold visT cntT
  by_cases hle : cntB c ls <= 3000
  ·have hd : decide (cntB c ls <= 3000) = true := decide_eq_true hle
   simp only [hd]
   rw [hc] at hle ⊢
   rcases zt4 k p v d args 0 (c + (1 + ls.length)) h.2 (by omega) hle with ⟨g1, g2, g3⟩ | g
   ·exact .inl ⟨g1, by rw [g2]; omega, by omega⟩
   ·exact .inr g
  ·have hd : decide (cntB c ls <= 3000) = false := decide_eq_false hle
   simp only [hd]
   exact .inr ⟨trivial, by omega⟩
theorem zt4 (k p v d : Int) : ∀ (ts : List Tm) (i : Nat) (c : Int), zcj k p v d i ts = true -> 0 <= c -> c <= 3000 -> ((zdk c ts).2 = true /\ (zdk c ts).1 = c + ze4 ts /\ c + ze4 ts <= 3000) \/ ((zdk c ts).2 = false /\ 3000 < (zdk c ts).1)
 | [], i, c, _, h0, h1 => by
  unfold zdk ze4
  exact .inl ⟨rfl, by simp, by omega⟩
 | t :: r, i, c, h, h0, h1 => by
  unfold zcj at h
  rw [Bool.and_eq_true] at h
  unfold zdk ze4
  rcases ztu p _ _ t c h.1 h0 h1 with ⟨g1, g2, g3⟩ | ⟨g1, g2⟩
  ·rw [g1]
   simp only
   rw [g2]
   have := zib t
   rcases zt4 k p v d r (i + 1) (c + cntT t) h.2 (by omega) g3 with ⟨g4, g5, g6⟩ | g
   ·exact .inl ⟨g4, by rw [g5]; omega, by omega⟩
   ·exact .inr g
  ·rw [g1]
   exact .inr ⟨rfl, g2⟩
end
end Go.Proofs.YtmkpiekbpakigaaDoor
end
section
set_option linter.unusedVariables false
set_option linter.unusedSimpArgs false
namespace Go.Proofs.YtmkpiekbpakigaaDoor
open Go.RowKit Go.Proofs.Base Go.Proofs.Sym
structure zab1 (d : DM) : Prop where
 k1 : 1 <= d.kind
 k4 : d.kind <= 4
 name : zcd d.name = true
 ty : zbm d.params 0 d.ty = true
 val : valB d.kind = true -> zbm d.params 0 d.val = true
 noval : valB d.kind = false -> zaa5 d.val = true
 nofam : d.kind ≠ 4 -> d.fixed = 0 /\ d.cts = []
 fam : d.kind = 4 -> 0 <= d.fixed /\ d.fixed <= 16 /\ d.cts.length <= 8 /\ ∀ c ∈ d.cts, zcd c.1 = true /\ zbm d.params 0 c.2 = true
section
variable (k p : Int) (nm : ByteArray) (t1 t2 : TT) (fx : Int) (ca : Option Addr) (cc : Nat) (cts : List (ByteArray × TT))
end
end Go.Proofs.YtmkpiekbpakigaaDoor
end
section
set_option linter.unusedVariables false
set_option linter.unusedSimpArgs false
namespace Go.Proofs.Sym
open Go.RowKit Go.Proofs.Base Go.Proofs.Mono
theorem zav.arg {P : Program} {f : FuncId} {args args' : List SV} {m : List (Nat × LB)} {b : Nat} {pre : World -> Prop} {X : Type} {ok : X -> Prop} {ret : X -> LRes} (h : zav P f args m b pre ok ret)
  (he : ∀ e, args'.map (SV.real e) = args.map (SV.real e)) (hl : ∀ x ∈ args, x.lt b) : zav P f args' m b pre ok ret :=
 ⟨h.up, fun cx e w hw hn h0 hm _ => by rw [he]; exact h.run cx e w hw hn h0 hm hl⟩
end Go.Proofs.Sym
namespace Go.Proofs.YtmkpiekbpakigaaDoor
open Go.RowKit Go.Proofs.Base Go.Proofs.Sym
theorem DD.cells_one (d : DD) : ∀ v ∈ d.cells, v.oneCell' = true := by
 intro v hv
 unfold DD.cells at hv
 simp only [List.mem_cons, List.mem_append, List.not_mem_nil, or_false] at hv
 rcases hv with rfl | rfl | rfl | hv | hv | rfl | rfl
 ·rfl
 ·rfl
 ·rfl
 ·exact TT.cells_one _ v hv
 ·exact TT.cells_one _ v hv
 ·rfl
 ·rfl
structure DsIn (w : World) (A : Option Addr) (c : Nat) (ds : List DD) : Prop where
 at' : ∀ (j : Nat) d, ds[j]? = some d -> (∃ a, A = some a /\ ∀ l u, d.cells[l]? = some u -> w.cell? ((a.add (j * 15)).add l) = some u) /\ DDIn w d
 nil : A = none -> ds.length = 0 /\ c = 0
 le : ds.length <= c
 max : c <= maxLen
end Go.Proofs.YtmkpiekbpakigaaDoor
end
section
set_option linter.unusedVariables false
set_option linter.unusedSimpArgs false
namespace Go.Proofs.YtmkpiekbpakigaaDoor
open Go.ChangeShapes Go.WideShapes Go.ChangeAt Go.RowKit Go.Proofs.Base Go.Proofs.Sym
theorem zsc : Tryd.prog.cellsOf 41 = 5 := by kernel_rfl
theorem cells5 : Tryd.prog.cellsOf 5 = 1 := by kernel_rfl
theorem zz7 : Tryd.prog.cellsOf 9 = 1 := by kernel_rfl
theorem zyk : Tryd.prog.cellsOf 32 = 1 := by kernel_rfl
theorem zyt : Tryd.prog.cellsOf 39 = 1 := by kernel_rfl
theorem zabd {w : World} (h : w.ShapedOpen Tryd.prog) : ML w :=
 Go.Proofs.cell_of_shapedOpen_int (zero := #[.int .i64 0]) (t := 3) h (of_decide_eq_true (by kernel_rfl)) (by kernel_rfl) rfl (by kernel_rfl) (by kernel_rfl) Tryd.underlying3
theorem zxx {n : Int} (h : (Lit.int .i64 n).wf = true) : I64 n := by
 simp only [Lit.wf, Bool.and_eq_true, decide_eq_true_eq] at h
 exact h
section
variable {H : Type} {enc : TypeId × Value -> H} {w : World} {base : Nat} {sp : Nat -> Bool} {held : Bool}
theorem zt1 {α : Type} {e t : TypeId} {z : Nat} (C : α -> List Value) (In : α -> Prop) (ht : Tryd.prog.underlying t = some (.slice e)) (hz : Tryd.prog.cellsOf e = z) (hC : ∀ a, (C a).length = z) {fuel : Nat} {cs : List Value} {x : DataW H × List MemPlace}
  (h : DataW.trod enc Tryd.prog w base sp held fuel t cs = some x) (ih : ∀ n, n < fuel -> ∀ cs x, DataW.trod enc Tryd.prog w base sp held n e cs = some x -> ∃ a, cs = C a /\ In a) :
  ∃ (A : Option Addr) (c : Nat) (us : List α), cs = [.slice A us.length c] /\ us.length <= c /\ c <= maxLen /\ (A = none -> us.length = 0 /\ c = 0) /\ ∀ j a, us[j]? = some a -> (∃ ad, A = some ad /\ ∀ l u, (C a)[l]? = some u -> w.cell? ((ad.add (j * z)).add l) = some u) /\ In a := by
 rcases DataW.trod_slice ht h with ⟨hcs, -⟩ | ⟨a, len, cap, elems, rest, n, hfu, hcs, _, _, hl, hm, hlen, hel, _, _⟩
 ·exact ⟨none, 0, [], hcs, Nat.le_refl _, Nat.zero_le _, fun _ => ⟨rfl, rfl⟩, fun j a hj => by simp at hj⟩
 ·obtain ⟨us, h1, h2⟩ := zgj (Q := fun j y => (∀ i c, (C y)[i]? = some c -> w.cell? ((a.add (j * z)).add i) = some c) /\ In y) len fun j hj => by
   have h3 := hel j hj
   rw [List.getElem?_eq_getElem (by omega), hz] at h3
   obtain ⟨cs', h4, h5⟩ := Option.bind_eq_some_iff.1 h3
   obtain ⟨y, rfl, hy⟩ := ih n (by omega) _ _ h5
   obtain ⟨_, h6, h7⟩ := World.cells?_some h4
   refine ⟨y, fun i c hi => ?_, hy⟩
   rw [h7 i (by have := (List.getElem?_eq_some_iff.1 hi).1; rw [hC] at this; exact this), hi]
  refine ⟨some a, cap, us, by rw [hcs, h1], by omega, hm, fun h => (by cases h), fun j y hj => ?_⟩
  obtain ⟨h3, h4⟩ := h2 j y hj
  exact ⟨⟨a, rfl, h3⟩, h4⟩
theorem zng {fuel : Nat} {cs : List Value} {x : DataW H × List MemPlace} (h : DataW.trod enc Tryd.prog w base sp held fuel 32 cs = some x) :
  ∃ (A : Option Addr) (c : Nat) (ls : List Lv), cs = [.slice A ls.length c] /\ ls.length <= c /\ c <= maxLen /\ (A = none -> ls.length = 0 /\ c = 0) /\ zcz w A ls := by
 obtain ⟨A, c, ls, h1, h2, h3, h4, h5⟩ := zt1 Lv.cells (fun _ => True) Tryd.underlying32 zoz (fun _ => rfl) h (fun n _ cs x hx => by
  obtain ⟨l, hl, _⟩ := zji hx
  exact ⟨l, hl, trivial⟩)
 refine ⟨A, c, ls, h1, h2, h3, h4, ⟨by simp only [maxLen] at h3; omega, fun hp => ?_⟩⟩
 obtain ⟨⟨a, ha, h6⟩, _⟩ := h5 0 _ (List.getElem?_eq_getElem hp)
 obtain ⟨b, off, spot⟩ := a
 have hspot : spot = none := by
  have := h6 0 _ rfl
  simpa [Addr.add] using World.cell?_spot this
 subst hspot
 refine ⟨b, off, ha, fun j l hj => ?_⟩
 obtain ⟨⟨a2, ha2, h3⟩, _⟩ := h5 j l hj
 rw [ha] at ha2
 cases ha2
 simp only [add_plain] at h3
 exact ⟨h3 0 _ rfl, h3 1 _ rfl, h3 2 _ rfl, h3 3 _ rfl, h3 4 _ rfl⟩
theorem zxv {w : World} {B : Option Addr} : ∀ (ts : List TT) (j : Nat), (∀ i t, ts[i]? = some t -> (∃ a, B = some a /\ ∀ l u, t.cells[l]? = some u -> w.cell? ((a.add ((j + i) * 5)).add l) = some u) /\ TTIn w t) -> TTs w B j ts
 | [], _, _ => by unfold TTs; trivial
 | t :: r, j, h => by
  unfold TTs
  obtain ⟨h1, h2⟩ := h 0 t rfl
  refine ⟨h1, h2, zxv r (j + 1) fun i t' hi => ?_⟩
  have := h (i + 1) t' hi
  rw [show j + (i + 1) = j + 1 + i by omega] at this
  exact this
end
end Go.Proofs.YtmkpiekbpakigaaDoor
end
