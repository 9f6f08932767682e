/- InterpInput: the card. -/
import Derived.Test.YtgmapenlgammfaaGreatDoorDoor
import Derived.Test.YtgmapenlgammfaaGreatDoorInput
set_option linter.all false
set_option maxRecDepth 100000
namespace Go.Proofs.YtgmapenlgammfaaGreatDoor.interpInput
open Go Go.ChangeShapes Go.WideShapes Go.ChangeAt Go.RowKit
theorem contract (H : Type) (enc : TypeId × Value → H) (W : World) (base : Nat) (args : Array Value) (ds gs : List (DataW H)) (before : List MemPlace)
    (hval : ∀ (j : Nat) t v, Tryz.f7.params[j]? = some t → args[j]? = some v → Value.okWide Tryz.prog W .any base t v)
    (hW : DataW.Whole enc Tryz.prog Tryz.f7.params.toList Rows.interpInputSpec.vars false W args.toList ds gs before) (hL : laidMetH Tryz.prog Rows.interpInputRow.laid W) :
    Calls Tryz.prog 7 args W fun e W' => ∃ v, e = .returned v ∧ Rows.interpInputSpec.post enc Tryz.prog Tryz.f7 false true false false W args v W' := by
  have hW' := hW
  obtain ⟨p, q, hA, hV, rfl, hfz, hnd⟩ := hW
  rw [Tryz.params7] at hA hval
  obtain ⟨v0, vs0, d0, ds0, p'0, q0, hargs, rfl, rfl, h0, r0⟩ := trodAll_cons hA
  obtain ⟨v1, vs1, d1, ds1, p'1, q1, rfl, rfl, rfl, h1, r1⟩ := trodAll_cons r0
  obtain ⟨v2, vs2, d2, ds2, p'2, q2, rfl, rfl, rfl, h2, r2⟩ := trodAll_cons r1
  obtain ⟨v3, vs3, d3, ds3, p'3, q3, rfl, rfl, rfl, h3, r3⟩ := trodAll_cons r2
  obtain ⟨v4, vs4, d4, ds4, p'4, q4, rfl, rfl, rfl, h4, r4⟩ := trodAll_cons r3
  obtain ⟨rfl, rfl, rfl⟩ := trodAll_nil r4
  obtain rfl : args = #[v0, v1, v2, v3, v4] := by cases args; simp_all
  obtain ⟨cs0, p0, rfl, hR0, hS0⟩ := arg_program (hval 0 _ v0 rfl rfl) h0
  obtain ⟨x1, rfl, rfl, rfl, hw1⟩ := open_int Tryz.underlying3 (hval 1 _ v1 rfl rfl) h1
  have hb1 := bounds_i64 hw1
  obtain ⟨cs2, m2, rfl, hM2, h322, hL2⟩ := arg_memory (hval 2 _ v2 rfl rfl) h2
  obtain ⟨l3, hl3, hi3, hn3⟩ := arg_ints (hval 3 _ v3 rfl rfl) h3
  obtain ⟨l4, hl4, hi4, hn4⟩ := arg_ints (hval 4 _ v4 rfl rfl) h4
  refine law_contract rfl (by kernel_rfl) (by rw [Tryz.params7]; decide +kernel) ?_ hW' (input_spec W (tab_of hL) p0 cs0 hR0 m2 cs2 hM2 h322 hL2 v3 l3 hl3 hi3 v4 l4 hl4 hi4 x1).walk
  intro ds hl
  rw [Tryz.params7] at hl
  match ds, hl with
  | [d1, d2, d3, d4, d5], _ => rfl
/-- The witness's arguments. -/
def wargs : Array Value := #[.agg #[.slice none 0 0, .slice none 0 0], .int .i64 0, .agg #[.slice none 0 0, .slice none 0 0], .slice none 0 0, .slice none 0 0]
theorem reads (os : Os) {H : Type} (enc : TypeId × Value → H) : ∃ places, DataW.whole enc Tryz.prog ((World.laidAll Tryz.prog os Rows.interpInputRow.laid).forCall (fun _ _ => 0) ⟨#[], wargs, []⟩).memory Tryz.f7.params.toList Rows.interpInputSpec.vars false wargs.toList 8 = some ([.agg [.nil, .nil], .lit (.int .i64 0), .agg [.nil, .nil], .nil, .nil], [], places) :=
  ⟨[], by kernel_rfl⟩
theorem lifted (os : Os) (started : os.Started) (H : Type) (enc : TypeId × Value → H) (F : Stop.Interp) :
    ReturnsInHanded {} Tryz.checked os 7 .any ((OpenSpec.ofChange Rows.interpInputSpec).preRow enc Tryz.prog Tryz.f7 Rows.interpInputRow.domain false Rows.interpInputRow.laid) (((OpenSpec.ofChange Rows.interpInputSpec).at F).post enc Tryz.prog Tryz.f7 false true false false) := by
  obtain ⟨places, hx⟩ := reads os enc
  refine returnsInHanded_of_row (C := Tryz.checked) (s := OpenSpec.ofChange Rows.interpInputSpec) noKnob started (by kernel_rfl) Tryz.func7
    (witness wargs (by kernel_rfl) (OpenSpec.preRow_of_cond 8 hx (by kernel_rfl) (fun k hk => by cases hk) (by kernel_rfl) (laid_met wargs))) ?_
  intro W base args ds gs before hval hW _ _ _ hL _ _
  exact contract H enc W base args ds gs before hval hW hL
theorem said : Rows.InterpInputSaid :=
  OpenClaim.holds_of_cond 7 Tryz.f7 rfl rfl rfl rfl rfl rfl rfl ⟨rfl, rfl, rfl, rfl, rfl⟩ rfl rfl rfl rfl rfl (by kernel_rfl) Tryz.func7 (by kernel_rfl)
    (of_decide_eq_true (by kernel_rfl)) (by unfold Func.isWrapper; first | (rw [if_pos (by decide +kernel)]; kernel_rfl) | (rw [if_neg (by decide +kernel)]; exact ⟨rfl, rfl⟩))
    (fun os started H enc _ F => by rw [OpenClaim.pre_eq_preRow]; exact lifted os started H enc F)
theorem plain (f : FuncId) (fn : Func) (hf : Tryz.pinned.checked.prog.funcNamed "ontime/ontimelaw16.InterpInput" = some f) (hfn : Tryz.pinned.checked.prog.funcs[f]? = some fn) :
    true = Tryz.pinned.checked.prog.looks [] ∧ ∀ (j : Nat) t, fn.params[j]? = some t → Tryz.pinned.checked.prog.wantsStandIn t = false := by
  obtain rfl : f = 7 := Option.some.inj ((show Tryz.prog.funcNamed "ontime/ontimelaw16.InterpInput" = some 7 by kernel_rfl).symm.trans hf) |>.symm
  obtain rfl : fn = Tryz.f7 := (Option.some.inj (Tryz.func7.symm.trans hfn)).symm
  refine ⟨by kernel_rfl, fun j t ht => ?_⟩
  have h : (Tryz.f7.params.toList.all fun t => !Tryz.prog.wantsStandIn t) = true := by kernel_rfl
  have h' : (!Tryz.prog.wantsStandIn t) = true := List.all_eq_true.1 h t (by simpa using Array.mem_of_getElem? ht)
  exact (show Tryz.prog.wantsStandIn t = false by simpa using h')
/-- ████ THE CARD ████ -/
theorem card : Rows.InterpInputCardSaid :=
  Claim7.holds_tied_plain_at .later [] _ _ _ _ said (fun _ h => by cases h) (by kernel_rfl) (fun _ h => by cases h) interpInput_row_tie rfl ⟨rfl, rfl⟩ (by kernel_rfl) rfl plain (by kernel_rfl)
end Go.Proofs.YtgmapenlgammfaaGreatDoor.interpInput
