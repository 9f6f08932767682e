/- The machine's small methods: step, receive. -/
import Derived.Test.YtgmapenlgammfaaGreatDoorJobM
set_option linter.all false
namespace Go.Proofs.YtgmapenlgammfaaGreatDoor
open Go

theorem step_spec (w0 : World) {J : JP} {E : JE} {lens : List Nat} (k : JobF w0 J E lens) {s : JS} (o : OKJ E lens s) (A : Option Addr) (c : Nat) :
    Spec Tryz.prog w0 119 #[.pointer (some ⟨J.bm, 0, none⟩)] (jobM J E s A c) (JRes J E (stepJ E s)) := by
  have hst := o.steps_le k
  refine Spec.enter (args := [_]) Tryz.func119 rfl rfl rfl (fun F => ?_)
  refine kAutoB ?_
  refine CJ.gives (M' := rcel J.bm 114 (machV J E) :: cel J.br 37 (resV J s A c 0) :: rmp Value.string J.ra (arrV J E) :: mp Value.string J.rv (fun nm => (s.vars nm).map intV) :: row 106 2 (.slice A s.out.length c) s.out.length (outCells s.out) :: (innerM J.us s.cells ++ F)) (by exact kGives) ?_
  (refine CJ.draws mixed 12 [rcel J.bm 114 (machV J E), cel J.br 37 (resV J s A c 0)] (by exact kGives) (dom_of (by kernel_rfl)) ?_)
  ((first | refine kAjB 0 ?_ | refine kAjS 0 ?_); (first | refine kAjB 1 ?_ | refine kAjS 1 ?_); (first | refine kAjB 2 ?_ | refine kAjS 2 ?_); (first | refine kAjB 3 ?_ | refine kAjS 3 ?_); (first | refine kAjB 4 ?_ | refine kAjS 4 ?_); (first | refine kAjB 5 ?_ | refine kAjS 5 ?_); (first | refine kAjB 6 ?_ | refine kAjS 6 ?_); (first | refine kAjB 7 ?_ | refine kAjS 7 ?_); (first | refine kAjB 8 ?_ | refine kAjS 8 ?_); (first | refine kAjB 9 ?_ | refine kAjS 9 ?_); (first | refine kAjB 10 ?_ | refine kAjS 10 ?_); (first | refine kAjB 11 ?_ | refine kAjS 11 ?_))
  (refine AJ.done (by kernel_rfl) (by kernel_rfl) rfl (by kernel_rfl) ?_)
  refine kAutoB ?_
  cases hc : decide ((s.steps : Int) ≥ E.fuel)
  · have hc' := of_decide_eq_false hc
    have e : stepJ E s = ({ s with steps := s.steps + 1 }, none) := by unfold stepJ; rw [if_neg hc']
    refine kAutoB ?_
    rw [i64_succ s.steps (by omega)]
    (apply RL.store; exact kEv; exact kEv; exact kTake; exact rfl; exact rfl; exact rfl)
    refine kAutoB ?_
    refine XJ.end0 rfl (jobM J E (stepJ E s).1 A c) ?_ ?_
    · rw [e]
      exact kGives
    · rw [e]
      exact ⟨rfl, rfl, A, c, rfl⟩
  · have hc' := of_decide_eq_true hc
    have e : stepJ E s = (s, some 13) := by unfold stepJ; rw [if_pos hc']
    refine kAutoB ?_
    (apply RL.callE; exact kEv; exact inferInstance; exact kEvl; exact (fail_spec w0 13); exact rfl)
    · intro v hv
      cases hv
    · intro p hp
      simp at hp
      subst hp
      refine kAutoB ?_
      refine XJ.panics (jobM J E (stepJ E s).1 A c) ?_ ?_
      · rw [e]
        exact kGives
      · rw [e]
        exact ⟨13, rfl, rfl, A, c, rfl⟩
theorem getD_get {l : List Int} {i : Nat} (h : i < l.length) : l.getD i 0 = l[i] := by simp [List.getD_eq_getElem?_getD, h]
theorem receive_spec (w0 : World) {J : JP} {E : JE} {lens : List Nat} (k : JobF w0 J E lens) {s : JS} (o : OKJ E lens s) (A : Option Addr) (c : Nat) (X : List HProp) :
    Spec Tryz.prog w0 122 #[.pointer (some ⟨J.bm, 0, none⟩)] (jobM J E s A c ++ X) (GRes J E X (recvJ E s)) := by
  have hst := o.steps_le k
  have hrd := o.read
  have hil := k.inl
  obtain ⟨Ai, ci, hin, hci, hri⟩ := k.inV
  obtain ⟨bm, rv, ra, br, us, inV, mA, mS⟩ := J
  simp only at hin
  subst hin
  refine Spec.enter (args := [_]) Tryz.func122 rfl rfl rfl (fun F => ?_)
  rw [List.append_assoc]
  refine kAutoB ?_
  refine CJ.gives (M' := rcel bm 114 [.map (some rv), .map (some ra), .slice Ai E.inp.length ci, .int .i64 E.fuel, .pointer (some ⟨br, 0, none⟩)] :: cel br 37 (resV ⟨bm, rv, ra, br, us, .slice Ai E.inp.length ci, mA, mS⟩ s A c 0) :: rmp Value.string ra (arrV ⟨bm, rv, ra, br, us, .slice Ai E.inp.length ci, mA, mS⟩ E) :: mp Value.string rv (fun nm => (s.vars nm).map intV) :: row 106 2 (.slice A s.out.length c) s.out.length (outCells s.out) :: (innerM us s.cells ++ (X ++ F))) (by exact kGives) ?_
  (refine CJ.draws mixed 13 [rcel bm 114 [.map (some rv), .map (some ra), .slice Ai E.inp.length ci, .int .i64 E.fuel, .pointer (some ⟨br, 0, none⟩)], cel br 37 (resV ⟨bm, rv, ra, br, us, .slice Ai E.inp.length ci, mA, mS⟩ s A c 0)] (by exact kGives) (dom_of (by kernel_rfl)) ?_)
  ((first | refine kAjB 0 ?_ | refine kAjS 0 ?_); (first | refine kAjB 1 ?_ | refine kAjS 1 ?_); (first | refine kAjB 2 ?_ | refine kAjS 2 ?_); (first | refine kAjB 3 ?_ | refine kAjS 3 ?_); (first | refine kAjB 4 ?_ | refine kAjS 4 ?_); (first | refine kAjB 5 ?_ | refine kAjS 5 ?_); (first | refine kAjB 6 ?_ | refine kAjS 6 ?_); (first | refine kAjB 7 ?_ | refine kAjS 7 ?_); (first | refine kAjB 8 ?_ | refine kAjS 8 ?_); (first | refine kAjB 9 ?_ | refine kAjS 9 ?_); (first | refine kAjB 10 ?_ | refine kAjS 10 ?_); (first | refine kAjB 11 ?_ | refine kAjS 11 ?_); (first | refine kAjB 12 ?_ | refine kAjS 12 ?_))
  (refine AJ.done (by kernel_rfl) (by kernel_rfl) rfl (by kernel_rfl) ?_)
  refine kAutoB ?_
  refine CJ.cut (σ := Unit) (fun _ => True) (fun _ => [(0, .pointer (some ⟨bm, 0, none⟩)), (3, .int .i32 (E.inp.getD s.read 0))]) (fun _ => rcel bm 114 [.map (some rv), .map (some ra), .slice Ai E.inp.length ci, .int .i64 E.fuel, .pointer (some ⟨br, 0, none⟩)] :: cel br 37 (resV ⟨bm, rv, ra, br, us, .slice Ai E.inp.length ci, mA, mS⟩ s A c 0) :: rmp Value.string ra (arrV ⟨bm, rv, ra, br, us, .slice Ai E.inp.length ci, mA, mS⟩ E) :: mp Value.string rv (fun nm => (s.vars nm).map intV) :: row 106 2 (.slice A s.out.length c) s.out.length (outCells s.out) :: (innerM us s.cells ++ (X ++ F))) ?_ ?_
  · cases hlt : decide ((s.read : Int) < (E.inp.length : Int))
    · have hge : E.inp.length ≤ s.read := by have := of_decide_eq_false hlt; omega
      refine kAutoB ?_
      have e : E.inp.getD s.read 0 = 0 := by rw [List.getD_eq_getElem?_getD, List.getElem?_eq_none hge]; rfl
      rw [e]
      exact XJ.meet () trivial (by exact kEsub) (Gives.refl _)
    · have hlt' : s.read < E.inp.length := by have := of_decide_eq_true hlt; omega
      obtain ⟨b, q, e1, e2, hb⟩ := hri.at_ s.read (by simpa using hlt')
      subst e1
      simp only [List.getElem_map] at hb
      refine kAutoB ?_
      (refine CJ.draws mixed 13 [rcel bm 114 [.map (some rv), .map (some ra), .slice (some ⟨b, q, none⟩) E.inp.length ci, .int .i64 E.fuel, .pointer (some ⟨br, 0, none⟩)], cel br 37 _] (by exact kGives) (dom_of (by kernel_rfl)) ?_)
      ((first | refine kAjB 0 ?_ | refine kAjS 0 ?_); (first | refine kAjB 1 ?_ | refine kAjS 1 ?_); (first | refine kAjB 2 ?_ | refine kAjS 2 ?_); (first | refine kAjB 3 ?_ | refine kAjS 3 ?_); (first | refine kAjB 4 ?_ | refine kAjS 4 ?_); (first | refine kAjB 5 ?_ | refine kAjS 5 ?_); (first | refine kAjB 6 ?_ | refine kAjS 6 ?_); (first | refine kAjB 7 ?_ | refine kAjS 7 ?_); (first | refine kAjB 8 ?_ | refine kAjS 8 ?_); (first | refine kAjB 9 ?_ | refine kAjS 9 ?_); (first | refine kAjB 10 ?_ | refine kAjS 10 ?_))
      (apply AJ.pur (i := 11); exact rfl; exact rfl; exact rfl; exact rfl; exact rfl; exact rfl; exact rfl; exact rfl; exact rfl; (apply OpP.indexAddr; exact kEv; exact kEv; exact hlt'))
      (apply AJ.pur (i := 12); exact rfl; exact rfl; exact rfl; exact rfl; exact rfl; exact rfl; exact rfl; exact rfl; exact rfl; (apply OpP.load; exact kEv; exact HasAt.base hb))
      (refine AJ.tail (by kernel_rfl) (by kernel_rfl) rfl (by kernel_rfl) (by kernel_rfl) (by kernel_rfl) ?_)
      rw [getD_get hlt']
      refine kAutoB ?_
      exact XJ.meet () trivial (by exact kEsub) (Gives.refl _)
  rintro _ -
  refine kAutoB ?_
  rw [i64_succ s.read (by omega)]
  (apply RL.store; exact kEv; exact kEv; exact kTake; exact rfl; exact rfl; exact rfl)
  refine kAutoB ?_
  refine XJ.ret1 rfl rfl (jobM ⟨bm, rv, ra, br, us, .slice Ai E.inp.length ci, mA, mS⟩ E (recvJ E s).1 A c ++ X) ?_ ?_
  · rw [List.append_assoc]
    exact kGives
  · exact ⟨_, rfl, rfl, A, c, rfl⟩
end Go.Proofs.YtgmapenlgammfaaGreatDoor
