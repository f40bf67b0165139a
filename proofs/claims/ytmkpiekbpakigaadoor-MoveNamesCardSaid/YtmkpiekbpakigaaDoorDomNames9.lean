/- A constant that is renamed, and renamed back, is as it was: the statement MoveNames of the given program, for every input. -/
import Derived.Test.YtmkpiekbpakigaaDoorDomg
import Derived.Test.YtmkpiekbpakigaaDoorDomo
set_option linter.unusedVariables false
set_option linter.unusedSimpArgs false
namespace Go.Proofs.YtmkpiekbpakigaaDoor.moveNames
open Go.ChangeShapes Go.WideShapes Go.ChangeAt Go.RowKit Go.Proofs.Base
theorem params_in : ∀ t ∈ Tryd.f11.params.toList, t ∈ zmh := by
 rw [Tryd.params11]
 decide
set_option maxRecDepth 100000 in
theorem contract (H : Type) (enc : TypeId × Value -> H) (W : World) (base : Nat) (args : Array Value) (ds gs : List (DataW H)) (before : List MemPlace)
  (hval : ∀ (j : Nat) t v, Tryd.f11.params[j]? = some t -> args[j]? = some v -> Value.okWide Tryd.prog W .any base t v)
  (hW : DataW.Whole enc Tryd.prog Tryd.f11.params.toList Rows.moveNamesSpec.vars false W args.toList ds gs before)
  (hwt : (DataW.weightsEach Tryd.prog (Tryd.f11.params.toList ++ (OpenSpec.ofChange Rows.moveNamesSpec).bare.plain.varTypes Tryd.prog) (ds ++ gs)).all (· <= reachBytes) = true) (hS : W.ShapedOpen Tryd.prog) :
  Calls Tryd.prog 11 args W fun e W' => ∃ v, e = .returned v /\ Rows.moveNamesSpec.post enc Tryd.prog Tryd.f11 false true false false W args v W' := by
 have hW' := hW
 obtain ⟨p, q, hA0, hV, rfl, hfz, hnd⟩ := hW
 have hA : DataW.TrodAll enc Tryd.prog W 0 (fun _ => true) true Tryd.f11.params.toList args.toList ds p := hA0
 rw [Tryd.params11] at hA hval
 obtain ⟨v0, vs0, d0, ds0, p0, q0, e0, f0, rfl, h0, r0⟩ := trodAll_cons hA
 obtain ⟨v1, vs1, d1, ds1, p1, q1, e1, f1, rfl, h1, r1⟩ := trodAll_cons r0
 obtain ⟨v2, vs2, d2, ds2, p2, q2, e2, f2, rfl, h2, r2⟩ := trodAll_cons r1
 obtain ⟨rfl, rfl, rfl⟩ := trodAll_nil r2
 subst e2 f2
 subst e1 f1
 subst f0
 obtain rfl : args = #[v0, v1, v2] := by cases args; simp_all
 obtain ⟨rfl, rfl⟩ := trodVars_none hV
 have hw0 : WtOk 41 d0 := fun n hn => of_decide_eq_true (List.all_eq_true.1 hwt n (zdv (j := 0) (by rw [Tryd.params11]; rfl) rfl hn))
 obtain ⟨t, rfl, ht, hBt⟩ := zmz (hval 0 41 v0 rfl rfl) h0 hw0
 obtain ⟨a, rfl⟩ := okWide_string Tryd.underlying9 (hval 1 9 v1 rfl rfl)
 obtain ⟨b, rfl⟩ := okWide_string Tryd.underlying9 (hval 2 9 v2 rfl rfl)
 have hml := zabd hS
 refine (zj3 t a b hBt W ⟨hml, by intro y hy; rw [List.mem_singleton.1 hy]; exact ht⟩).mono fun e W' ⟨he, hb⟩ => ?_
 exact ⟨_, he, zsk (b := 4) hW' rfl (by kernel_rfl) Tryd.underlying4 (fun t ht => zs5 t (params_in t ht)) rfl hb⟩
theorem laid_met (os : Os) : laidMet Tryd.prog Rows.moveNamesRow.laid ((zlu os).forCall (fun _ _ => 0) ⟨#[], #[.agg #[.int .i64 0, .int .i64 0, .string ⟨#[]⟩, .slice none 0 0, .slice none 0 0], .string ⟨#[]⟩, .string ⟨#[]⟩], []⟩).memory :=
 laidMet_of_run' 8 (by kernel_rfl) (by kernel_rfl)
theorem reads (os : Os) {H : Type} (enc : TypeId × Value -> H) : ∃ places, DataW.whole enc Tryd.prog ((zlu os).forCall (fun _ _ => 0) ⟨#[], #[.agg #[.int .i64 0, .int .i64 0, .string ⟨#[]⟩, .slice none 0 0, .slice none 0 0], .string ⟨#[]⟩, .string ⟨#[]⟩], []⟩).memory Tryd.f11.params.toList Rows.moveNamesSpec.vars false (#[.agg #[.int .i64 0, .int .i64 0, .string ⟨#[]⟩, .slice none 0 0, .slice none 0 0], .string ⟨#[]⟩, .string ⟨#[]⟩] : Array Value).toList 8 = some ([.agg [.lit (.int .i64 0), .lit (.int .i64 0), .lit (.string []), .nil, .nil], .lit (.string []), .lit (.string [])], [], places) :=
 ⟨[], by kernel_rfl⟩
set_option maxRecDepth 100000 in
theorem lifted (os : Os) (started : os.Started) (H : Type) (enc : TypeId × Value -> H) (F : Stop.Interp) :
  ReturnsInHanded {} Tryd.checked os 11 .any ((OpenSpec.ofChange Rows.moveNamesSpec).preRow enc Tryd.prog Tryd.f11 Rows.moveNamesRow.domain false Rows.moveNamesRow.laid) (((OpenSpec.ofChange Rows.moveNamesSpec).at F).post enc Tryd.prog Tryd.f11 false true false false) := by
 obtain ⟨places, hx⟩ := reads os enc
 refine returnsInHanded_of_row (C := Tryd.checked) (s := OpenSpec.ofChange Rows.moveNamesSpec) own started (by kernel_rfl) Tryd.func11
  (witness_row_at (enc := enc) (C := Tryd.checked) false (zlu os) #[.agg #[.int .i64 0, .int .i64 0, .string ⟨#[]⟩, .slice none 0 0, .slice none 0 0], .string ⟨#[]⟩, .string ⟨#[]⟩] rfl (by kernel_rfl) (by kernel_rfl) (by kernel_rfl)
   (OpenSpec.preRow_of_cond 8 hx (by kernel_rfl) (fun k hk => by cases hk) (by kernel_rfl) (laid_met os))) ?_
 intro W base args ds gs before hval hW _ _ hwt _ hS _
 exact contract H enc W base args ds gs before hval hW hwt hS
theorem said : Rows.MoveNamesSaid :=
 OpenClaim.holds_of_cond 11 Tryd.f11 rfl rfl rfl rfl rfl rfl rfl ⟨rfl, rfl, rfl, rfl, rfl⟩ rfl rfl rfl rfl rfl (by kernel_rfl) Tryd.func11 (by kernel_rfl)
  (of_decide_eq_true (by kernel_rfl)) (by unfold Func.isWrapper; first | (rw [if_pos (by decide +kernel)]; kernel_rfl) | (rw [if_neg (by decide +kernel)]; exact ⟨rfl, rfl⟩))
  (fun os started H enc _ F => by rw [OpenClaim.pre_eq_preRow]; exact lifted os started H enc F)
theorem plain (f : FuncId) (fn : Func) (hf : Tryd.pinned.checked.prog.funcNamed "imprimatur/imprimaturlaw09.MoveNames" = some f) (hfn : Tryd.pinned.checked.prog.funcs[f]? = some fn) :
  true = Tryd.pinned.checked.prog.looks [] /\ ∀ (j : Nat) t, fn.params[j]? = some t -> Tryd.pinned.checked.prog.wantsStandIn t = false := by
 obtain rfl : f = 11 := Option.some.inj ((show Tryd.prog.funcNamed "imprimatur/imprimaturlaw09.MoveNames" = some 11 by kernel_rfl).symm.trans hf) |>.symm
 obtain rfl : fn = Tryd.f11 := (Option.some.inj (Tryd.func11.symm.trans hfn)).symm
 refine ⟨by kernel_rfl, fun j t ht => ?_⟩
 rw [Tryd.params11] at ht
 exact zno t (params_in t (by rw [Tryd.params11]; exact Array.mem_toList_iff.2 (Array.mem_of_getElem? ht)))
theorem card : Rows.MoveNamesCardSaid :=
 Claim7.holds_tied_plain_at .later [] _ _ _ _ said (fun _ h => by cases h) (by kernel_rfl) (fun _ h => by cases h) moveNames_row_tie rfl ⟨rfl, rfl⟩ (by kernel_rfl) rfl plain (by kernel_rfl)
end Go.Proofs.YtmkpiekbpakigaaDoor.moveNames
