/- The law's precondition: shape, Fits of the reference, runnable. -/
import Derived.Test.YtgmapenlgammfaaGreatDoorBig
import Derived.Test.YtgmapenlgammfaaGreatDoorCheck
set_option linter.all false
namespace Go.Proofs.YtgmapenlgammfaaGreatDoor
open Go
theorem shape_spec (w0 : World) (A : Option Addr) (c : Nat) (l : List Arr) (v : Value) (m : List (List Int)) (hl : l.length ≤ maxLen) (hR : RowsB w0 2 A (l.map arrRow)) (hm : MatR w0 v m) :
    Spec Tryz.prog w0 53 #[.slice A l.length c, v] [] (Is (.bool (sizedB l m))) := by
  obtain ⟨B, d, rfl, hd, ha⟩ := hm.at_
  simp only [maxLen] at hl
  refine Spec.enter (args := [_, _]) Tryz.func53 rfl rfl rfl (fun F => ?_)
  refine kAutoB ?_
  cases hne : ((l.length : Int) != (m.length : Int))
  case true =>
    have hn : l.length ≠ m.length := by simp at hne; omega
    refine kAutoB ?_
    refine XJ.ret1 rfl rfl [] (by exact kGives) ⟨?_, rfl⟩
    rw [sizedB, decide_eq_false hn]; rfl
  have hlen : l.length = m.length := by simp at hne; omega
  refine kAutoB ?_
  refine CJ.loop (σ := Nat) (fun i => i ≤ l.length ∧ ∀ j, j < i → decide (((m.getD j []).length : Int) = (l.getD j arr0).len) = true) (fun i => [(5, .int .i64 (i : Int)), (0, .slice A l.length c), (1, .slice B m.length d)]) (fun _ => F) (fun i => l.length - i) 0 ⟨Nat.zero_le _, fun j hj => by omega⟩ (by exact kEsub) (by exact kGives) ?_
  rintro i ⟨hi, he⟩
  refine kAutoB ?_
  cases hlt : decide ((i : Int) < (l.length : Int))
  · have hge : i = l.length := by have := of_decide_eq_false hlt; omega
    refine kAutoB ?_
    refine XJ.ret1 rfl rfl [] (by exact kGives) ⟨?_, rfl⟩
    rw [sizedB, decide_eq_true hlen, allI_true _ _ (fun j hj => he j (by omega))]; rfl
  have hlt' : i < l.length := by have := of_decide_eq_true hlt; omega
  have hlt2 : i < m.length := by omega
  obtain ⟨b1, o1, rfl, hl1, hb1⟩ := hR.at_ i (by simpa using hlt')
  simp only [List.getElem_map, arrRow] at hb1
  have hb11 := hb1.one 1 rfl
  obtain ⟨b2, o2, A2, c2, rfl, hb2, hc2, hr2⟩ := ha i hlt2
  have hq : decide (((m.getD i []).length : Int) = (l.getD i arr0).len) = !((m[i]'hlt2).length != l[i].len : Bool) := by
    rw [List.getD_eq_getElem?_getD, List.getElem?_eq_getElem hlt2, List.getD_eq_getElem?_getD, List.getElem?_eq_getElem hlt']
    simp only [Option.getD_some, bne, Bool.not_not]
    rfl
  refine kAutoB ?_
  (refine CJ.draws mixed 11 _ (by exact kGives) (dom_of (by kernel_rfl)) ?_)
  ((first | refine kAjB 0 ?_ | refine kAjS 0 ?_); (first | refine kAjB 1 ?_ | refine kAjS 1 ?_))
  (apply AJ.pur (i := 2); exact rfl; exact rfl; exact rfl; exact rfl; exact rfl; exact rfl; exact rfl; exact rfl; exact rfl; (apply OpP.indexAddr; exact kEv; exact kEv; exact hlt2))
  ((first | refine kAjB 3 ?_ | refine kAjS 3 ?_); (first | refine kAjB 4 ?_ | refine kAjS 4 ?_); (first | refine kAjB 5 ?_ | refine kAjS 5 ?_); (first | refine kAjB 6 ?_ | refine kAjS 6 ?_))
  (apply AJ.pur (i := 7); exact rfl; exact rfl; exact rfl; exact rfl; exact rfl; exact rfl; exact rfl; exact rfl; exact rfl; (apply OpP.indexAddr; exact kEv; exact kEv; exact hlt'))
  ((first | refine kAjB 8 ?_ | refine kAjS 8 ?_); (first | refine kAjB 9 ?_ | refine kAjS 9 ?_); (first | refine kAjB 10 ?_ | refine kAjS 10 ?_))
  (refine AJ.done (by kernel_rfl) (by kernel_rfl) rfl (by kernel_rfl) ?_)
  refine kAutoB ?_
  cases hx : (((m[i]'hlt2).length : Int) != l[i].len)
  · rw [hx] at hq
    refine kAutoB ?_
    rw [i64_up i (by omega)]
    refine XJ.round (i + 1) ⟨by omega, fun j hj => ?_⟩ (by omega) (by exact kEsub) (by exact kGives)
    by_cases hji : j = i
    · subst hji; exact hq
    · exact he j (by omega)
  · rw [hx] at hq
    refine kAutoB ?_
    refine XJ.ret1 rfl rfl [] (by exact kGives) ⟨?_, rfl⟩
    rw [sizedB, allI_false _ _ i hlt' hq, Bool.and_false]
def refFitsB (p : Prg) (m : Mem) : Bool := decide (m.arrays.length = p.tasks.length) && sizedB p.shared m.shared && tasksB p.tasks m.arrays
theorem refFits_spec (w0 : World) (p : Prg) (cs : List Value) (hR : PrgR w0 p cs) (hf : Fit p) (m : Mem) (u v : Value) (hu : CubR w0 u m.arrays) (hv : MatR w0 v m.shared) :
    Spec Tryz.prog w0 20 #[.agg cs.toArray, u, v] [] (Is (.bool (refFitsB p m))) := by
  obtain ⟨A1, c1, A2, c2, rfl, h1, h2, h3, h4⟩ := hR.ex
  have hmx : (4611686018427387904 : Nat) ≤ maxLen := by simp [maxLen]
  have hS := shape_spec w0 A1 c1 p.shared v m.shared (by have := hf.shared; omega) h3 hv
  obtain ⟨B, d, rfl, hd, ha⟩ := hu.at_
  have hft := hf.tasks
  refine Spec.enter (args := [_, _, _]) Tryz.func20 rfl rfl rfl (fun F => ?_)
  refine kAutoB ?_
  (apply RL.boxR; exact kEv; exact rfl; intro b3)
  refine kAutoB ?_
  cases hne : ((m.arrays.length : Int) != (p.tasks.length : Int))
  case true =>
    have hn : m.arrays.length ≠ p.tasks.length := by simp at hne; omega
    refine kAutoB ?_
    refine XJ.ret1 rfl rfl [] (by exact kGives) ⟨?_, rfl⟩
    rw [refFitsB, decide_eq_false hn]; rfl
  have hlen : m.arrays.length = p.tasks.length := by simp at hne; omega
  refine kAutoB ?_
  (apply RL.callIs; exact kEv; exact inferInstance; exact kEvl; exact hS; exact rfl)
  cases e1 : sizedB p.shared m.shared
  case false =>
    refine kAutoB ?_
    refine XJ.ret1 rfl rfl [] (by exact kGives) ⟨?_, rfl⟩
    rw [refFitsB, e1, Bool.and_false, Bool.false_and]
  refine kAutoB ?_
  refine CJ.loop (σ := Nat) (fun i => i ≤ m.arrays.length ∧ ∀ j, j < i → sizedB (p.tasks.getD j task0).arrays (m.arrays.getD j []) = true) (fun i => [(7, .int .i64 (i : Int)), (3, .pointer (some ⟨b3, 0, none⟩)), (1, .slice B m.arrays.length d)]) (fun _ => rcel b3 25 [.slice A1 p.shared.length c1, .slice A2 p.tasks.length c2] :: F) (fun i => m.arrays.length - i) 0 ⟨Nat.zero_le _, fun j hj => by omega⟩ (by exact kEsub) (by exact kGives) ?_
  rintro i ⟨hi, he⟩
  refine kAutoB ?_
  cases hlt : decide ((i : Int) < (m.arrays.length : Int))
  · have hge : i = m.arrays.length := by have := of_decide_eq_false hlt; omega
    refine kAutoB ?_
    refine XJ.ret1 rfl rfl [] (by exact kGives) ⟨?_, rfl⟩
    rw [refFitsB, decide_eq_true hlen, e1, tasksB, decide_eq_true hlen.symm, allI_true _ _ (fun j hj => he j (by omega))]; rfl
  have hlt' : i < m.arrays.length := by have := of_decide_eq_true hlt; omega
  have hlt2 : i < p.tasks.length := by omega
  obtain ⟨b2, o2, x2, rfl, hb2, hm2⟩ := ha i hlt'
  obtain ⟨b, o, r, rfl, hb, hrl, hr⟩ := h4.at_ i hlt2
  obtain ⟨A5, c5, A6, c6, bs, rfl, g1, g2, g3, g4, g5⟩ := hr.ex
  have hb3 := hb.one 3 rfl
  have hS2 := shape_spec w0 A6 c6 p.tasks[i].arrays x2 _ (by have := (hf.each _ (List.getElem_mem hlt2)).2.1; omega) g4 hm2
  have hq : sizedB (p.tasks.getD i task0).arrays (m.arrays.getD i []) = sizedB p.tasks[i].arrays (m.arrays[i]'hlt') := by
    rw [List.getD_eq_getElem?_getD, List.getElem?_eq_getElem hlt2, List.getD_eq_getElem?_getD, List.getElem?_eq_getElem hlt']
    rfl
  refine kAutoB ?_
  (refine CJ.draws mixed 12 [rcel b3 25 _] (by exact kGives) (dom_of (by kernel_rfl)) ?_)
  ((first | refine kAjB 0 ?_ | refine kAjS 0 ?_); (first | refine kAjB 1 ?_ | refine kAjS 1 ?_); (first | refine kAjB 2 ?_ | refine kAjS 2 ?_))
  (apply AJ.pur (i := 3); exact rfl; exact rfl; exact rfl; exact rfl; exact rfl; exact rfl; exact rfl; exact rfl; exact rfl; (apply OpP.indexAddr; exact kEv; exact kEv; exact hlt2))
  ((first | refine kAjB 4 ?_ | refine kAjS 4 ?_); (first | refine kAjB 5 ?_ | refine kAjS 5 ?_); (first | refine kAjB 6 ?_ | refine kAjS 6 ?_); (first | refine kAjB 7 ?_ | refine kAjS 7 ?_))
  (apply AJ.pur (i := 8); exact rfl; exact rfl; exact rfl; exact rfl; exact rfl; exact rfl; exact rfl; exact rfl; exact rfl; (apply OpP.indexAddr; exact kEv; exact kEv; exact hlt'))
  (apply AJ.pur (i := 9); exact rfl; exact rfl; exact rfl; exact rfl; exact rfl; exact rfl; exact rfl; exact rfl; exact rfl; (apply OpP.load; exact kEv; exact HasAt.base hb2))
  (refine AJ.loud1 (i := 10) (by kernel_rfl) (by kernel_rfl) rfl (by kernel_rfl) (by kernel_rfl) rfl rfl rfl rfl rfl rfl (OpS.callIs (by exact kEv) inferInstance (by exact kEvl) hS2) ?_ ?_)
  · rintro _ _ ⟨rfl, rfl⟩
    refine ⟨by exact kGives, ?_⟩
    ((first | refine kAjB 11 ?_ | refine kAjS 11 ?_))
    (refine AJ.done (by kernel_rfl) (by kernel_rfl) rfl (by kernel_rfl) ?_)
    refine kAutoB ?_
    cases hx : sizedB p.tasks[i].arrays (m.arrays[i]'hlt')
    · rw [hx] at hq
      refine kAutoB ?_
      refine XJ.ret1 rfl rfl [] (by exact kGives) ⟨?_, rfl⟩
      rw [refFitsB, tasksB, allI_false _ _ i hlt2 hq, Bool.and_false, Bool.and_false]
    · rw [hx] at hq
      refine kAutoB ?_
      rw [i64_up i (by omega)]
      refine XJ.round (i + 1) ⟨by omega, fun j hj => ?_⟩ (by omega) (by exact kEsub) (by exact kGives)
      by_cases hji : j = i
      · subst hji; exact hq
      · exact he j (by omega)
  · rintro _ _ h; exact h.elim
def runB (p : Prg) (t : Int) (m : Mem) : Bool := okB p && decide (t ≥ 0) && decide (t < (p.tasks.length : Int)) && refFitsB p m
theorem runnable_spec (w0 : World) (hT : Tab w0) (p : Prg) (cs : List Value) (hR : PrgR w0 p cs) (hf : Fit p) (m : Mem) (ms : List Value) (hM : MemR w0 ms m) (t : Int) :
    Spec Tryz.prog w0 23 #[.agg cs.toArray, .int .i64 t, .agg ms.toArray] [] (Is (.bool (runB p t m))) := by
  have hok := ok_spec w0 hT p cs hf hR
  obtain ⟨u, v, rfl, hu, hv⟩ := hM
  have hF := refFits_spec w0 p cs hR hf m u v hu hv
  obtain ⟨A1, c1, A2, c2, rfl, h1, h2, h3, h4⟩ := hR.ex
  refine Spec.enter (args := [_, _, _]) Tryz.func23 rfl rfl rfl (fun F => ?_)
  refine kAutoB ?_
  (apply RL.boxR; exact kEv; exact rfl; intro b3)
  (apply RL.boxR; exact kEv; exact rfl; intro b5)
  refine kAutoB ?_
  (apply RL.callIs; exact kEv; exact inferInstance; exact kEvl; exact hok; exact rfl)
  cases e1 : okB p
  · refine kAutoB ?_
    refine XJ.ret1 rfl rfl [] (by exact kGives) ⟨?_, rfl⟩
    rw [runB, e1]; rfl
  refine kAutoB ?_
  cases e2 : decide (t ≥ 0)
  · refine kAutoB ?_
    refine XJ.ret1 rfl rfl [] (by exact kGives) ⟨?_, rfl⟩
    rw [runB, e1, e2]; rfl
  refine kAutoB ?_
  cases e3 : decide (t < (p.tasks.length : Int))
  · refine kAutoB ?_
    refine XJ.ret1 rfl rfl [] (by exact kGives) ⟨?_, rfl⟩
    rw [runB, e1, e2, e3]; rfl
  refine kAutoB ?_
  (apply RL.callIs; exact kEv; exact inferInstance; exact kEvl; exact hF; exact rfl)
  refine kAutoB ?_
  refine XJ.ret1 rfl rfl [] (by exact kGives) ⟨?_, rfl⟩
  rw [runB, e1, e2, e3]; rfl
end Go.Proofs.YtgmapenlgammfaaGreatDoor
