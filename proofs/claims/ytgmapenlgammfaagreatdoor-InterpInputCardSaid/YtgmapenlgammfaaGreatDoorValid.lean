/- The package ast: which tasks and programs are valid. -/
import Derived.Test.YtgmapenlgammfaaGreatDoorNums
set_option linter.all false
namespace Go.Proofs.YtgmapenlgammfaaGreatDoor
open Go

def arrB (a : Arr) : Bool := nameB a.name && !decide (a.len < 1) && !decide (a.len > 32)
def arrsB (l : List Arr) (most : Int) : Bool := decide ((l.length : Int) ≤ most) && l.all arrB
def taskB (t : Task) : Bool :=
  nameB t.name && !decide (t.period < 1) && !decide (t.period > 1000) && !decide ((t.vars.length : Int) > 12) && arrsB t.arrays 4 && t.vars.all nameB &&
    (isB t.body 8 && decide (depthI t.body ≤ 16) && decide (sizeI t.body ≤ 400) && decide (nestI t.body ≤ 4))
/-- Whether a program is valid. -/
def validB (p : Prg) : Bool := arrsB p.shared 4 && decide ((p.tasks.length : Int) ≤ 8) && p.tasks.all taskB
/-- The sizes for which the walks speak. -/
structure Fit (p : Prg) : Prop where
  shared : p.shared.length < 4611686018427387904
  tasks : p.tasks.length < 4611686018427387904
  each : ∀ t ∈ p.tasks, t.vars.length < 4611686018427387904 ∧ t.arrays.length < 4611686018427387904 ∧ t.body.size < 4611686018427387904

theorem arrays1_spec (w0 : World) (hT : Tab w0) (a : Arr) : Spec Tryz.prog w0 123 #[.agg (arrRow a).toArray] [] (Is (.bool (!arrB a))) := by
  unfold arrRow
  refine Spec.enter (args := [_]) Tryz.func123 rfl rfl rfl (fun F => ?_)
  refine kAuto ?_
  (apply RL.boxR; exact kEv; exact rfl; intro b1)
  refine kAuto ?_
  (apply RL.callIs; exact kEv; exact inferInstance; exact kEvl; exact name_spec w0 hT a.name; exact rfl)
  cases h1 : nameB a.name
  · refine kAuto ?_
    refine XJ.ret1 rfl rfl [] (by exact kGives) ⟨?_, rfl⟩
    rw [arrB, h1]; rfl
  · refine kAuto ?_
    cases h2 : decide (a.len < 1)
    · refine kAuto ?_
      refine XJ.ret1 rfl rfl [] (by exact kGives) ⟨?_, rfl⟩
      rw [arrB, h1, h2]; simp
    · refine kAuto ?_
      refine XJ.ret1 rfl rfl [] (by exact kGives) ⟨?_, rfl⟩
      rw [arrB, h1, h2]; rfl
def arr0 : Arr := ⟨⟨#[]⟩, 0⟩
theorem getD_eq {α : Type} (l : List α) (d : α) (i : Nat) (h : i < l.length) : l.getD i d = l[i] := by simp [List.getD_eq_getElem?_getD, h]
theorem arrays_spec (w0 : World) (hT : Tab w0) (A : Option Addr) (c : Nat) (l : List Arr) (most : Int) (hl : l.length < 4611686018427387904) (hR : RowsB w0 2 A (l.map arrRow)) :
    Spec Tryz.prog w0 84 #[.slice A l.length c, .int .i64 most] [] (Is (.bool (arrsB l most))) := by
  have hc := arr_contains_spec w0 123 [] [] A c (l.map arrRow) [] (fun i => !arrB (l.getD i arr0)) inferInstance (by simpa using hl) hR (fun i hi => by
    have hi' : i < l.length := by simpa using hi
    rw [getD_eq l arr0 i hi', List.getElem_map]
    exact arrays1_spec w0 hT _)
  rw [List.length_map] at hc
  refine Spec.enter (args := [_, _]) Tryz.func84 rfl rfl rfl (fun F => ?_)
  refine kAuto ?_
  cases h1 : decide ((l.length : Int) ≤ most)
  · refine kAuto ?_
    refine XJ.ret1 rfl rfl [] (by exact kGives) ⟨?_, rfl⟩
    rw [arrsB, h1]; rfl
  · refine kAuto ?_
    (apply RL.callIs; exact kEv; exact inferInstance; exact kEvl; exact hc; exact rfl)
    have e : anyI (fun i => !arrB (l.getD i arr0)) l.length = !(l.all arrB) := by rw [anyI_list l (fun a => !arrB a) arr0, List.not_all_eq_any_not]
    rw [e]
    cases h2 : l.all arrB
    · refine kAuto ?_
      refine XJ.ret1 rfl rfl [] (by exact kGives) ⟨?_, rfl⟩
      rw [arrsB, h1, h2]; rfl
    · refine kAuto ?_
      refine XJ.ret1 rfl rfl [] (by exact kGives) ⟨?_, rfl⟩
      rw [arrsB, h1, h2]; rfl
theorem valid1_spec (w0 : World) (hT : Tab w0) (s : ByteArray) : Spec Tryz.prog w0 126 #[.string s] [] (Is (.bool (!nameB s))) := by
  refine Spec.enter (args := [_]) Tryz.func126 rfl rfl rfl (fun F => ?_)
  refine kAuto ?_
  (apply RL.callIs; exact kEv; exact inferInstance; exact kEvl; exact name_spec w0 hT s; exact rfl)
  refine kAuto ?_
  exact XJ.ret1 rfl rfl [] (by exact kGives) ⟨rfl, rfl⟩
theorem valid_spec (w0 : World) (hT : Tab w0) (t : Task) (cs : List Value) (hv : t.vars.length < 4611686018427387904) (ha : t.arrays.length < 4611686018427387904) (hb : t.body.size < 4611686018427387904) (hR : TaskR w0 t cs) :
    Spec Tryz.prog w0 87 #[.agg cs.toArray] [] (Is (.bool (taskB t))) := by
  obtain ⟨A1, c1, A2, c2, bs, rfl, h1, h2, h3, h4, h5⟩ := hR.ex
  have hc := str_contains_spec w0 126 [] [] A1 c1 (t.vars.map strRow) [] (fun i => !nameB (t.vars.getD i ⟨#[]⟩)) inferInstance (by simpa using hv) h3 (fun i hi => by
    have hi' : i < t.vars.length := by simpa using hi
    rw [getD_eq t.vars ⟨#[]⟩ i hi', List.getElem_map]
    exact valid1_spec w0 hT _)
  rw [List.length_map, anyI_list t.vars (fun s => !nameB s) ⟨#[]⟩, ← List.not_all_eq_any_not] at hc
  have hA := arrays_spec w0 hT A2 c2 t.arrays 4 ha h4
  have hB := isBlock_spec w0 hT t.body bs hb h5
  have hD := depth_spec w0 _ t.body bs (Nat.le_refl _) hb h5
  have hS := size_spec w0 _ t.body bs (Nat.le_refl _) hb h5
  have hN := nest_spec w0 _ t.body bs (Nat.le_refl _) hb h5
  obtain ⟨A, cap, hbs, _⟩ := h5.kids
  subst hbs
  refine Spec.enter (args := [_]) Tryz.func87 rfl rfl rfl (fun F => ?_)
  refine kAuto ?_
  (apply RL.boxR; exact kEv; exact rfl; intro b1)
  refine kAuto ?_
  (apply RL.callIs; exact kEv; exact inferInstance; exact kEvl; exact name_spec w0 hT t.name; exact rfl)
  cases e1 : nameB t.name
  case false =>
    refine kAuto ?_
    refine XJ.ret1 rfl rfl [] (by exact kGives) ⟨?_, rfl⟩
    rw [taskB, e1]; rfl
  refine kAuto ?_
  cases e2 : decide (t.period < 1)
  case true =>
    refine kAuto ?_
    refine XJ.ret1 rfl rfl [] (by exact kGives) ⟨?_, rfl⟩
    rw [taskB, e1, e2]; rfl
  refine kAuto ?_
  cases e3 : decide (t.period > 1000)
  case true =>
    refine kAuto ?_
    refine XJ.ret1 rfl rfl [] (by exact kGives) ⟨?_, rfl⟩
    rw [taskB, e1, e2, e3]; rfl
  refine kAuto ?_
  cases e4 : decide ((t.vars.length : Int) > 12)
  case true =>
    refine kAuto ?_
    refine XJ.ret1 rfl rfl [] (by exact kGives) ⟨?_, rfl⟩
    rw [taskB, e1, e2, e3, e4]; rfl
  refine kAuto ?_
  (apply RL.callIs; exact kEv; exact inferInstance; exact kEvl; exact hA; exact rfl)
  cases e5 : arrsB t.arrays 4
  case false =>
    refine kAuto ?_
    refine XJ.ret1 rfl rfl [] (by exact kGives) ⟨?_, rfl⟩
    rw [taskB, e1, e2, e3, e4, e5]; rfl
  refine kAuto ?_
  (apply RL.callIs; exact kEv; exact inferInstance; exact kEvl; exact hc; exact rfl)
  cases e6 : t.vars.all nameB
  case false =>
    refine kAuto ?_
    refine XJ.ret1 rfl rfl [] (by exact kGives) ⟨?_, rfl⟩
    rw [taskB, e1, e2, e3, e4, e5, e6]; rfl
  refine kAuto ?_
  refine kAuto ?_
  (apply RL.callIs; exact kEv; exact inferInstance; exact kEvl; exact hB; exact rfl)
  cases e7 : isB t.body 8
  case false =>
    refine kAuto ?_
    refine XJ.ret1 rfl rfl [] (by exact kGives) ⟨?_, rfl⟩
    rw [taskB, e1, e2, e3, e4, e5, e6, e7]; rfl
  refine kAuto ?_
  (apply RL.callIs; exact kEv; exact inferInstance; exact kEvl; exact hD; exact rfl)
  refine kAuto ?_
  cases e8 : decide (depthI t.body ≤ 16)
  case false =>
    refine kAuto ?_
    refine XJ.ret1 rfl rfl [] (by exact kGives) ⟨?_, rfl⟩
    rw [taskB, e1, e2, e3, e4, e5, e6, e7, e8]; rfl
  refine kAuto ?_
  (apply RL.callIs; exact kEv; exact inferInstance; exact kEvl; exact hS; exact rfl)
  refine kAuto ?_
  cases e9 : decide (sizeI t.body ≤ 400)
  case false =>
    refine kAuto ?_
    refine XJ.ret1 rfl rfl [] (by exact kGives) ⟨?_, rfl⟩
    rw [taskB, e1, e2, e3, e4, e5, e6, e7, e8, e9]; rfl
  refine kAuto ?_
  (apply RL.callIs; exact kEv; exact inferInstance; exact kEvl; exact hN; exact rfl)
  refine kAuto ?_
  refine XJ.ret1 rfl rfl [] (by exact kGives) ⟨?_, rfl⟩
  rw [taskB, e1, e2, e3, e4, e5, e6, e7, e8, e9]; rfl
theorem Valid1_spec (w0 : World) (hT : Tab w0) (t : Task) (cs : List Value) (hv : t.vars.length < 4611686018427387904) (ha : t.arrays.length < 4611686018427387904) (hb : t.body.size < 4611686018427387904) (hl : cs.length = 8) (hR : TaskR w0 t cs) :
    Spec Tryz.prog w0 86 #[.agg cs.toArray] [] (Is (.bool (!taskB t))) := by
  have hs := valid_spec w0 hT t cs hv ha hb hR
  refine Spec.enter (args := [_]) Tryz.func86 rfl rfl rfl (fun F => ?_)
  refine kAuto ?_
  (apply RL.boxR; exact kEv; exact rfl; intro b1)
  refine kAuto ?_
  (apply RL.callIs; exact kEv; exact inferInstance; exact kEvl; exact hs; exact rfl)
  refine kAuto ?_
  exact XJ.ret1 rfl rfl [] (by exact kGives) ⟨rfl, rfl⟩
def task0 : Task := ⟨⟨#[]⟩, 0, [], [], node0⟩
theorem Valid_spec (w0 : World) (hT : Tab w0) (p : Prg) (cs : List Value) (hf : Fit p) (hR : PrgR w0 p cs) :
    Spec Tryz.prog w0 51 #[.agg cs.toArray] [] (Is (.bool (validB p))) := by
  obtain ⟨A1, c1, A2, c2, rfl, h1, h2, h3, h4⟩ := hR.ex
  obtain ⟨rows, hrl, hrows, hrt⟩ := h4.ex
  have hA := arrays_spec w0 hT A1 c1 p.shared 4 hf.shared h3
  have hc := task_contains_spec w0 86 [] [] A2 c2 rows [] (fun i => !taskB (p.tasks.getD i task0)) inferInstance (by have := hf.tasks; omega) hrows (fun i hi => by
    have hi' : i < p.tasks.length := by omega
    rw [getD_eq p.tasks task0 i hi']
    have hm := hf.each _ (List.getElem_mem hi')
    exact Valid1_spec w0 hT _ _ hm.1 hm.2.1 hm.2.2 (hrows.at_ i hi).choose_spec.choose_spec.2.1 (hrt i _ _ (by simp [hi']) (by simp [hi])))
  rw [hrl, anyI_list p.tasks (fun t => !taskB t) task0, ← List.not_all_eq_any_not] at hc
  refine Spec.enter (args := [_]) Tryz.func51 rfl rfl rfl (fun F => ?_)
  refine kAuto ?_
  (apply RL.boxR; exact kEv; exact rfl; intro b1)
  refine kAuto ?_
  (apply RL.callIs; exact kEv; exact inferInstance; exact kEvl; exact hA; exact rfl)
  cases e1 : arrsB p.shared 4
  case false =>
    refine kAuto ?_
    refine XJ.ret1 rfl rfl [] (by exact kGives) ⟨?_, rfl⟩
    rw [validB, e1]; rfl
  refine kAuto ?_
  cases e2 : decide ((p.tasks.length : Int) ≤ 8)
  case false =>
    refine kAuto ?_
    refine XJ.ret1 rfl rfl [] (by exact kGives) ⟨?_, rfl⟩
    rw [validB, e1, e2]; rfl
  refine kAuto ?_
  (apply RL.callIs; exact kEv; exact inferInstance; exact kEvl; exact hc; exact rfl)
  refine kAuto ?_
  refine XJ.ret1 rfl rfl [] (by exact kGives) ⟨?_, rfl⟩
  rw [validB, e1, e2]; simp
end Go.Proofs.YtgmapenlgammfaaGreatDoor
