/- What a card's door is made of: the arguments opened, the table, the witness's world. -/
import Derived.Test.YtgmapenlgammfaaGreatDoorOpen
import Derived.MakeChecks
import Derived.Deep.DeepWitnessRef
set_option linter.all false
set_option maxRecDepth 100000
namespace Go.Proofs.YtgmapenlgammfaaGreatDoor
open Go Go.ChangeShapes Go.WideShapes Go.ChangeAt Go.RowKit
attribute [local semireducible] Spec
theorem noKnob : ownKnob Tryz.prog.godebug = none := by kernel_rfl
theorem asciiSpace_eq : (Rows.laid_strings_asciiSpace : DataW Unit) = Lib.tabData .u8 Lib.asciiSpaceTab := by kernel_rfl
/-- What the row's list gives. -/
theorem tab_of {W : World} (h : laidMetH Tryz.prog [("unicode.White_Space", Rows.laid_unicode_White_Space), ("strings.asciiSpace", Rows.laid_strings_asciiSpace)] W) : Tab W := by
  rw [MakeChecks.laidMetH_plain _ _ _ (by kernel_rfl)] at h
  obtain ⟨ps, ⟨_, _, _, _, _, q, _, _, _, _, ⟨g, t, cs, fuel, p, q', h1, h2, h3, h4, _, _⟩, _⟩, _⟩ := h
  rw [asciiSpace_eq] at h4
  obtain rfl := Option.some.inj ((show Tryz.prog.globalNamed "strings.asciiSpace" = some 0 by kernel_rfl).symm.trans h1)
  obtain rfl := Option.some.inj ((show (Tryz.prog.globals[0]?).map (·.type) = some 253 by kernel_rfl).symm.trans h2)
  unfold Tab Lib.TabIs
  rw [h3, ← Lib.cells_of_tab Tryz.underlying253 Tryz.underlying5 cells_u8 (by kernel_rfl) h4]
section
variable {H : Type} {enc : TypeId × Value → H} {P : Program} {W : World} {r : Reach} {base base' : Nat} {sp : Nat → Bool} {held : Bool} {t : TypeId} {v : Value} {d : DataW H} {ps : List MemPlace}
theorem arg_struct {fs : Array Field} (ht : P.underlying t = some (.struct fs)) (hval : Value.okWide P W r base t v) (h : DataW.Trod enc P W base' sp held t v d ps) : ∃ cs : List Value, v = .agg cs.toArray ∧ ∃ fuel, DataW.trod enc P W base' sp held fuel t cs = some (d, ps) := by
  obtain ⟨a, rfl, _⟩ := okWide_struct ht hval
  obtain ⟨fuel, h⟩ := h
  exact ⟨a.toList, by simp, fuel, h⟩
theorem arg_slice {e : TypeId} (ht : P.underlying t = some (.slice e)) (hval : Value.okWide P W r base t v) (h : DataW.Trod enc P W base' sp held t v d ps) : ∃ fuel, DataW.trod enc P W base' sp held fuel t [v] = some (d, ps) := by
  obtain ⟨a, n, c, rfl⟩ := okWide_slice ht hval
  exact h
end
section
variable {H : Type} {enc : TypeId × Value → H} {W : World} {r : Reach} {base base' : Nat} {sp : Nat → Bool} {held : Bool} {v : Value} {d : DataW H} {ps : List MemPlace}
theorem arg_program (hval : Value.okWide Tryz.prog W r base 25 v) (h : DataW.Trod enc Tryz.prog W base' sp held 25 v d ps) : ∃ cs p, v = .agg cs.toArray ∧ PrgR W p cs ∧ Sizes p := by
  obtain ⟨cs, e, fuel, h⟩ := arg_struct Tryz.underlying25 hval h
  obtain ⟨p, h1, h2⟩ := open_program h
  exact ⟨cs, p, e, h1, h2⟩
theorem arg_memory (hval : Value.okWide Tryz.prog W r base 29 v) (h : DataW.Trod enc Tryz.prog W base' sp held 29 v d ps) : ∃ cs m, v = .agg cs.toArray ∧ MemR W cs m ∧ Mem32 m ∧ MemL m := by
  obtain ⟨cs, e, fuel, h⟩ := arg_struct Tryz.underlying29 hval h
  obtain ⟨m, h1, h2, h3⟩ := open_memory h
  exact ⟨cs, m, e, h1, h2, h3⟩
theorem arg_ints (hval : Value.okWide Tryz.prog W r base 30 v) (h : DataW.Trod enc Tryz.prog W base' sp held 30 v d ps) : ∃ l, IntsR W v l ∧ (∀ x ∈ l, I32 x) ∧ l.length ≤ maxLen := by
  obtain ⟨fuel, h⟩ := arg_slice Tryz.underlying30 hval h
  obtain ⟨u, l, e, h1⟩ := open_ints' h
  obtain rfl : v = u := by simpa using e
  exact ⟨l, h1⟩
end
/-- From a contract of mine to the walk. -/
theorem Spec.walk {P : Program} {W : World} {f : FuncId} {args : Array Value} (h : Spec P W f args [] (Is (.bool true))) : Calls P f args W fun e W' => e = .returned (.bool true) ∧ Below W.heap.size W W' :=
  (h [] W (fun _ => none) trivial (Sat.refl W)).mono fun e w' ⟨M', h', r, _, s⟩ => ⟨by
    cases e with
    | returned v => exact congrArg Ending.returned r.1
    | panicked c => exact r.elim
    | outgrown => exact r.elim, s.below⟩
/-- A world that fits. -/
theorem witness {H : Type} {enc : TypeId × Value → H} {os : Os} {f : FuncId} {fn : Func} {s : OpenSpec} {conds : List PathCond} (args : Array Value)
    (hok : Input.okWideB Tryz.prog ((World.laidAll Tryz.prog os [("unicode.White_Space", Rows.laid_unicode_White_Space), ("strings.asciiSpace", Rows.laid_strings_asciiSpace)]).forCall (fun _ _ => 0) ⟨#[], args, []⟩) f ⟨#[], args, []⟩ = true)
    (hrow : s.preRow enc Tryz.prog fn conds false [("unicode.White_Space", Rows.laid_unicode_White_Space), ("strings.asciiSpace", Rows.laid_strings_asciiSpace)] ((World.laidAll Tryz.prog os [("unicode.White_Space", Rows.laid_unicode_White_Space), ("strings.asciiSpace", Rows.laid_strings_asciiSpace)]).forCall (fun _ _ => 0) ⟨#[], args, []⟩).memory args) :
    ∃ (w : World) (tape : Tape) (i : Input), w.os = os ∧ (w.forCall tape i).Shaped Tryz.prog ∧ i.vars = [] ∧ Input.okWide Tryz.prog (w.forCall tape i) .any w.heap.size f i ∧
      s.preRow enc Tryz.prog fn conds false [("unicode.White_Space", Rows.laid_unicode_White_Space), ("strings.asciiSpace", Rows.laid_strings_asciiSpace)] (w.forCall tape i).memory i.args ∧ ({} : Assume).holds Tryz.prog (lone (Frame.enter Tryz.prog f i.args .normal) [] (w.forCall tape i)) :=
  ⟨World.laidAll Tryz.prog os [("unicode.White_Space", Rows.laid_unicode_White_Space), ("strings.asciiSpace", Rows.laid_strings_asciiSpace)], fun _ _ => 0, ⟨#[], args, []⟩, World.laidAll_os _ _ _,
    World.shaped_of_ZipB (by kernel_rfl) (by kernel_rfl), (Input.okWide_of_okWideB (base := 0) hok).1, (Input.okWide_of_okWideB hok).2, hrow, by
    simp only [Assume.holds]
    exact ⟨by simp, by simp, fun _ => Modest.zero, by simp, by simp⟩⟩
theorem laid_met {os : Os} (args : Array Value) : laidMetH Tryz.prog [("unicode.White_Space", Rows.laid_unicode_White_Space), ("strings.asciiSpace", Rows.laid_strings_asciiSpace)] ((World.laidAll Tryz.prog os [("unicode.White_Space", Rows.laid_unicode_White_Space), ("strings.asciiSpace", Rows.laid_strings_asciiSpace)]).forCall (fun _ _ => 0) ⟨#[], args, []⟩).memory := by
  rw [MakeChecks.laidMetH_plain _ _ _ (by kernel_rfl)]
  exact laidMet_laidAll args (by kernel_rfl) (by kernel_rfl)
end Go.Proofs.YtgmapenlgammfaaGreatDoor
