/- The package ast: the forms of nodes, which trees are valid, and a tree's numbers. -/
import Derived.Test.YtgmapenlgammfaaGreatDoorSlices
set_option linter.all false
namespace Go.Proofs.YtgmapenlgammfaaGreatDoor
open Go

structure Form where
  is : Int
  name : Bool
  low : Int
  high : Int
  kids : List Int
/-- The form of a kind. -/
def formOf (k : Int) : Option Form :=
  if k = 46 then some ⟨4, true, 0, 0, [8]⟩
  else if k = 45 then some ⟨4, false, 0, 7, [1]⟩
  else if k = 44 then some ⟨4, false, 0, 7, [2]⟩
  else if k = 43 then some ⟨4, false, 1, 1000, [1, 8]⟩
  else if k = 42 then some ⟨4, true, 1, 1000, [8]⟩
  else if k = 41 then some ⟨4, false, 0, 0, [1, 8, 8]⟩
  else if k = 40 then some ⟨4, false, 0, 0, [2, 1]⟩
  else if k = 5 then some ⟨1, false, 0, 0, [1]⟩
  else if k = 4 then some ⟨1, false, 0, 0, [1]⟩
  else if k = 3 then some ⟨3, true, 0, 0, [1]⟩
  else if k = 2 then some ⟨3, true, 0, 0, []⟩
  else if k = 1 then some ⟨1, false, 0, 2147483647, []⟩
  else if 6 ≤ k ∧ k ≤ 23 then some ⟨1, false, 0, 0, [1, 1]⟩
  else none
def catV (l : List Int) : List Value := l.map (Value.int .u8)
/-- The value of a form. -/
def FormIs (w : World) (f : Form) (v : Value) : Prop :=
  ∃ B, v = .agg #[.int .u8 f.is, .bool f.name, .int .i64 f.low, .int .i64 f.high, .slice B f.kids.length f.kids.length] ∧ RowsB w 1 B ((catV f.kids).map fun u => [u])
def FormAt (w : World) (k : Int) (o : Option Value) : Prop := match formOf k with
  | none => o = none
  | some f => ∃ v, o = some v ∧ FormIs w f v
/-- The map of forms in the base. -/
def FormsAt (w : World) (r : Nat) : Prop := ∃ es clk m, w.heap[r]? = some (.map es clk) ∧ MapIs (Value.int .u8) es m ∧ ∀ k, FormAt w k (m k)
def FormTo (w : World) (D : List Int) (m : Int → Option Value) : Prop := ∀ k, if k ∈ D then FormAt w k (m k) else m k = none
theorem FormTo.nil (w : World) : FormTo w [] (fun _ => none) := fun k => by simp
theorem FormTo.step {w : World} {D : List Int} {m : Int → Option Value} (h : FormTo w D m) {k : Int} {f : Form} {v : Value} (hf : formOf k = some f) (hv : FormIs w f v) : FormTo w (k :: D) (upd m k v) := by
  intro j
  by_cases hj : j = k
  · subst hj
    simp only [List.mem_cons, true_or, if_true, FormAt, hf, upd]
    exact ⟨v, rfl, hv⟩
  · have := h j
    simp only [List.mem_cons, hj, false_or, upd, if_false]
    exact this
attribute [local semireducible] Takes pt Base in
theorem cel_rows {w0 w : World} {h : Frag} {b T : Nat} {cs : List Value} {M M' : List HProp} (t : Takes M [cel b T cs] M') (m : star M h) (s : Sat w0 w h) : RowsB w 1 (some ⟨b, 0, none⟩) (cs.map fun u => [u]) := by
  intro i r e
  have hb := s.pt (t h m)
  rw [List.getElem?_map] at e
  obtain ⟨v, hv, rfl⟩ := Option.map_eq_some_iff.1 e
  refine ⟨b, 0, rfl, rfl, ?_⟩
  intro j u hu
  rcases j with _ | j
  · simp at hu
    subst hu
    simp [World.cell?, hb, hv]
  · simp at hu
theorem rows_nil {w : World} {n : Nat} : RowsB w n none (([] : List Value).map fun u => [u]) := by
  intro i r e
  simp at e
attribute [local semireducible] Takes Gives mp in
theorem FormsAt.of {w0 w : World} {h : Frag} {r : Nat} {m : Int → Option Value} {N : List HProp} (t : star (mp (Value.int .u8) r m :: N) h) (s : Sat w0 w h) (k : ∀ j, FormAt w j (m j)) : FormsAt w r := by
  obtain ⟨h1, h2, l1, l2, dd, ⟨es, clk, a, mi⟩, m2⟩ := t
  exact ⟨es, clk, m, (s.own r _ (l1 r _ a)).2, mi, k⟩

def formBase : List Int := [46, 45, 44, 43, 42, 41, 40, 5, 4, 3, 2, 1]
theorem forms_spec (w0 : World) : Spec Tryz.prog w0 71 #[] [] (Ret (fun v N => ∃ r, v = .map (some r) ∧ ∀ w h, star N h → Sat w0 w h → FormsAt w r) noP) := by
  refine Spec.enter (args := []) Tryz.func71 rfl rfl rfl (fun F => ?_)
  refine kAuto ?_
  refine RL.makeMap rfl (Value.int .u8) (fun r => ?_)
  refine kAuto ?_
  (apply RL.insert; exact kEv; exact kEv; exact kEv; exact kTake)
  refine kAuto ?_
  (apply RL.insert; exact kEv; exact kEv; exact kEv; exact kTake)
  (apply RL.buildSlice; exact rfl; exact kEvl; exact rfl; (intro w; kernel_rfl); exact rfl; intro b1)
  refine kAuto ?_
  (apply RL.insert; exact kEv; exact kEv; exact kEv; exact kTake)
  (apply RL.buildSlice; exact rfl; exact kEvl; exact rfl; (intro w; kernel_rfl); exact rfl; intro b2)
  refine kAuto ?_
  (apply RL.insert; exact kEv; exact kEv; exact kEv; exact kTake)
  (apply RL.buildSlice; exact rfl; exact kEvl; exact rfl; (intro w; kernel_rfl); exact rfl; intro b3)
  refine kAuto ?_
  (apply RL.insert; exact kEv; exact kEv; exact kEv; exact kTake)
  (apply RL.buildSlice; exact rfl; exact kEvl; exact rfl; (intro w; kernel_rfl); exact rfl; intro b4)
  refine kAuto ?_
  (apply RL.insert; exact kEv; exact kEv; exact kEv; exact kTake)
  (apply RL.buildSlice; exact rfl; exact kEvl; exact rfl; (intro w; kernel_rfl); exact rfl; intro b5)
  refine kAuto ?_
  (apply RL.insert; exact kEv; exact kEv; exact kEv; exact kTake)
  (apply RL.buildSlice; exact rfl; exact kEvl; exact rfl; (intro w; kernel_rfl); exact rfl; intro b6)
  refine kAuto ?_
  (apply RL.insert; exact kEv; exact kEv; exact kEv; exact kTake)
  (apply RL.buildSlice; exact rfl; exact kEvl; exact rfl; (intro w; kernel_rfl); exact rfl; intro b7)
  refine kAuto ?_
  (apply RL.insert; exact kEv; exact kEv; exact kEv; exact kTake)
  (apply RL.buildSlice; exact rfl; exact kEvl; exact rfl; (intro w; kernel_rfl); exact rfl; intro b8)
  refine kAuto ?_
  (apply RL.insert; exact kEv; exact kEv; exact kEv; exact kTake)
  (apply RL.buildSlice; exact rfl; exact kEvl; exact rfl; (intro w; kernel_rfl); exact rfl; intro b9)
  refine kAuto ?_
  (apply RL.insert; exact kEv; exact kEv; exact kEv; exact kTake)
  (apply RL.buildSlice; exact rfl; exact kEvl; exact rfl; (intro w; kernel_rfl); exact rfl; intro b10)
  refine kAuto ?_
  (apply RL.insert; exact kEv; exact kEv; exact kEv; exact kTake)
  refine kAuto ?_
  refine CJ.loop (σ := Nat × (Int → Option Value) × List HProp) (fun s => 6 ≤ s.1 ∧ s.1 ≤ 24 ∧ ∃ D : List Int, (∀ j : Int, j ∈ D ↔ (j ∈ formBase ∨ (6 ≤ j ∧ j < (s.1 : Int)))) ∧ ∀ w h, star s.2.2 h → Sat w0 w h → FormTo w D s.2.1)
    (fun s => [(2, .int .u8 (s.1 : Int)), (1, .map (some r))]) (fun s => mp (Value.int .u8) r s.2.1 :: (s.2.2 ++ F)) (fun s => 24 - s.1) (6, _, [_, _, _, _, _, _, _, _, _, _]) ⟨by omega, by omega, formBase, fun j => by simp; omega, ?_⟩ (by exact kEsub) (Gives.refl _) ?_
  · intro w h m s
    refine (((((((((((((FormTo.nil w).step (k := 1) rfl ⟨none, rfl, rows_nil⟩).step (k := 2) rfl ⟨none, rfl, rows_nil⟩).step (k := 3) rfl ⟨_, rfl, ?_⟩).step (k := 4) rfl ⟨_, rfl, ?_⟩).step (k := 5) rfl ⟨_, rfl, ?_⟩).step (k := 40) rfl ⟨_, rfl, ?_⟩).step (k := 41) rfl ⟨_, rfl, ?_⟩).step (k := 42) rfl ⟨_, rfl, ?_⟩).step (k := 43) rfl ⟨_, rfl, ?_⟩).step (k := 44) rfl ⟨_, rfl, ?_⟩).step (k := 45) rfl ⟨_, rfl, ?_⟩).step (k := 46) rfl ⟨_, rfl, ?_⟩)
    all_goals exact cel_rows (by exact kTake) m s
  rintro ⟨k, m, N⟩ ⟨h6, h24, D, hD, hN⟩
  simp only at h6 h24 hD hN
  refine kAuto ?_
  cases hlt : decide ((k : Int) ≤ 23)
  · have hk : k = 24 := by have := of_decide_eq_false hlt; omega
    subst hk
    refine kAuto ?_
    refine XJ.ret1 rfl rfl (mp (Value.int .u8) r m :: N) (Gives.refl _) ⟨r, rfl, fun w h t s => FormsAt.of t s ?_⟩
    have ht := hN w h t.tail s
    intro j
    by_cases hj : j ∈ D
    · have := ht j
      rw [if_pos hj] at this
      exact this
    · have h1 := ht j
      rw [if_neg hj] at h1
      have h2 := (not_congr (hD j)).1 hj
      simp only [formBase, List.mem_cons, List.not_mem_nil, or_false, not_or] at h2
      obtain ⟨⟨e1, e2, e3, e4, e5, e6, e7, e8, e9, e10, e11, e12⟩, e13⟩ := h2
      have : formOf j = none := by
        unfold formOf
        rw [if_neg e1, if_neg e2, if_neg e3, if_neg e4, if_neg e5, if_neg e6, if_neg e7, if_neg e8, if_neg e9, if_neg e10, if_neg e11, if_neg e12, if_neg (by omega)]
      unfold FormAt
      rw [this]
      exact h1
  · have hk : k ≤ 23 := by have := of_decide_eq_true hlt; omega
    refine kAuto ?_
    (apply RL.buildSlice; exact rfl; exact kEvl; exact rfl; (intro w; kernel_rfl); exact rfl; intro b)
    refine kAuto ?_
    (apply RL.mapUpdate; exact kEv; exact kEv; exact kEv; exact kTake)
    refine kAuto ?_
    have hw : IntKind.u8.wrap ((k : Int) + 1) = ((k + 1 : Nat) : Int) := by simp only [IntKind.wrap, IntKind.signed, IntKind.bits]; simp; omega
    rw [hw]
    refine XJ.round (k + 1, _, cel b _ _ :: N) ⟨by simp only; omega, by simp only; omega, (k : Int) :: D, fun j => ?_, fun w h m s => ?_⟩ (by simp only; omega) (by exact kEsub) (Gives.refl _)
    · simp only [List.mem_cons, hD]
      constructor
      · rintro (h | h | h)
        · exact .inr (by omega)
        · exact .inl h
        · exact .inr (by omega)
      · rintro (h | h)
        · exact .inr (.inl h)
        · rcases Int.lt_or_le j k with h' | h'
          · exact .inr (.inr (by omega))
          · exact .inl (by omega)
    · refine (hN w h m.tail s).step (k := (k : Int)) (f := ⟨1, false, 0, 0, [1, 1]⟩) ?_ ⟨_, rfl, cel_rows (Takes.here _ _) m s⟩
      unfold formOf
      rw [if_neg (by omega), if_neg (by omega), if_neg (by omega), if_neg (by omega), if_neg (by omega), if_neg (by omega), if_neg (by omega), if_neg (by omega), if_neg (by omega), if_neg (by omega), if_neg (by omega), if_neg (by omega), if_pos (by omega)]
end Go.Proofs.YtgmapenlgammfaaGreatDoor
