/- The contracts of layer 7 in the form that the symbolic walks take. -/
import Derived.Test.YtmkpiekbpakigaaDoorTab
import Derived.Test.YtmkpiekbpakigaaDoorLv10
set_option linter.unusedVariables false
set_option linter.unusedSimpArgs false
namespace Go.Proofs.YtmkpiekbpakigaaDoor
open Go.RowKit Go.Proofs.Base Go.Proofs.Sym

theorem enters {f : Nat} {fn : Func} (hf : Tryd.prog.funcs[f]? = some fn) (h1 : (fn.name == "runtime.NumGoroutine") = false) (h2 : fn.body.isNone = false) : Begins Tryd.prog f := ⟨fn, hf, h1, h2⟩
theorem Tab.upS : Up Tab := by
  intro w w' h ht
  unfold Tab Lib.TabIs World.var? at *
  have hg : Tryd.prog.globalNamed "internal/strconv.uint64pow10" = some 0 := by kernel_rfl
  rw [hg] at ht ⊢
  simp only [Option.bind_some] at ht ⊢
  cases hq : w.heap[0]? with
  | none => rw [hq] at ht; simp at ht
  | some o =>
    rw [hq] at ht
    cases o with
    | cells c t fz => rw [h 0 _ hq (by intro e; cases e)]; exact ht
    | _ => simp at ht
theorem LvAt.up (b off : Nat) (l : Lv) : Up fun w => LvAt w b off l := fun w w' h ⟨h0, h1, h2, h3, h4⟩ => ⟨h.cell h0, h.cell h1, h.cell h2, h.cell h3, h.cell h4⟩
theorem LvRow.up (A : Option Addr) (ls : List Lv) : Up fun w => LvRow w A ls := fun w w' h ⟨h0, h1⟩ => ⟨h0, fun hp => let ⟨b, off, e, hc⟩ := h1 hp; ⟨b, off, e, fun j l hl => LvAt.up _ _ _ _ _ h (hc j l hl)⟩⟩
theorem IntRow.up (A : Option Addr) (xs : List Int) : Up fun w => IntRow w A xs := fun w w' h ⟨h0, h1⟩ => ⟨h0, fun hp => let ⟨b, off, e, hc⟩ := h1 hp; ⟨b, off, e, fun j l hl => h.cell (hc j l hl)⟩⟩
section
variable (a b : Lv)
theorem right_pc : PCall Tryd.prog 16 [a.val] (fun _ => True) (fun r => r = .bool a.right) (fun _ _ => True) :=
  pcall_val _ Up.true (enters Tryd.func16 (by kernel_rfl) (by kernel_rfl)) fun w _ => right_any a.b a.p0 a.p1 a.p2 a.p3 w
theorem leq_pc : PCall Tryd.prog 14 [a.val, b.val] (fun _ => True) (fun r => r = .bool (a.leq b)) (fun _ _ => True) :=
  pcall_val _ Up.true (enters Tryd.func14 (by kernel_rfl) (by kernel_rfl)) fun w _ => leq_any a b w
theorem value_pc (A : Option Addr) (xs : List Int) (n c : Nat) (hn : n = xs.length) (hc : n ≤ c) (hc2 : c ≤ 9223372036854775807) : PCall Tryd.prog 15 [a.val, .slice A n c] (fun w => IntRow w A xs) (fun r => r = .int .i64 (a.value xs)) (fun _ _ => True) :=
  pcall_val _ (IntRow.up A xs) (enters Tryd.func15 (by kernel_rfl) (by kernel_rfl)) fun w h => value_any a A xs n c w h hn hc hc2
theorem inst_pc (A : Option Addr) (bs : List Lv) (n c : Nat) (hn : n = bs.length) : PCall Tryd.prog 18 [a.val, .slice A n c] (fun w => LvRow w A bs) (fun r => r = .tuple #[(a.inst bs).1.val, .bool (a.inst bs).2]) (fun _ _ => True) :=
  pcall_val _ (LvRow.up A bs) (enters Tryd.func18 (by kernel_rfl) (by kernel_rfl)) fun w h => inst_any a A bs c w n hn h
theorem width_pc : PCall Tryd.prog 51 [a.val] (fun _ => True) (fun r => r = .int .i64 a.width) (fun _ _ => True) :=
  pcall_val _ Up.true (enters Tryd.func51 (by kernel_rfl) (by kernel_rfl)) fun w _ => width_any a.b a.p0 a.p1 a.p2 a.p3 w
theorem up_pc (n : Int) : PCall Tryd.prog 50 [a.val, .int .i64 n] (fun _ => True) (fun r => r = .tuple #[(Lv.up a n).1.val, .bool (Lv.up a n).2]) (fun _ _ => True) :=
  pcall_val _ Up.true (enters Tryd.func50 (by kernel_rfl) (by kernel_rfl)) fun w _ => up_any a.b a.p0 a.p1 a.p2 a.p3 n w
theorem num_pc (n : Int) : PCall Tryd.prog 48 [.int .i64 n] (fun _ => True) (fun r => r = (Lv.num n).val) (fun _ _ => True) :=
  pcall_val _ Up.true (enters Tryd.func48 (by kernel_rfl) (by kernel_rfl)) fun w _ => num_any n w
theorem max_pc (A : Option Addr) (ls : List Lv) (n c : Nat) (hn : n = ls.length) : PCall Tryd.prog 17 [.slice A n c] (fun w => LvRow w A ls) (fun r => r = (Lv.maxl ls).val) (fun _ _ => True) :=
  pcall_val _ (LvRow.up A ls) (enters Tryd.func17 (by kernel_rfl) (by kernel_rfl)) fun w h => max_any A c ls w h n hn
theorem string_pc : PCall Tryd.prog 19 [a.val] Tab (fun r => r = .string ⟨a.text.toArray⟩) (fun _ _ => True) :=
  pcall_val _ Tab.upS (enters Tryd.func19 (by kernel_rfl) (by kernel_rfl)) fun w h => string_any a w h
theorem alive7_pc : PCall Tryd.prog 13 [] Tab (fun r => r = .bool true) (fun _ _ => True) :=
  pcall_val _ Tab.upS (enters Tryd.func13 (by kernel_rfl) (by kernel_rfl)) fun w h => alive_any w h
end
end Go.Proofs.YtmkpiekbpakigaaDoor
