/- The package check: the declarations of a task, the faults of a program. -/
import Derived.Test.YtgmapenlgammfaaGreatDoorVisit
set_option linter.all false
namespace Go.Proofs.YtgmapenlgammfaaGreatDoor
open Go

def hitN (C : Ctx) (name : ByteArray) : Nat := if C.shared name || C.vars name || C.arrays name then 1 else 0
def insV (C : Ctx) (name : ByteArray) : Ctx := { C with vars := fun j => decide (j = name) || C.vars j }
def insA (C : Ctx) (name : ByteArray) : Ctx := { C with arrays := fun j => decide (j = name) || C.arrays j }
theorem declV_spec (w0 : World) (b2 bc : Nat) (task : Int) (rv ra rs : Nat) (Ao : Option Addr) (k co : Nat) (xs : List Value) (C : Ctx) (name : ByteArray) (hk : k ≤ 100000000000) :
    Spec Tryz.prog w0 131 #[.string name, .map (some rv), .pointer (some ⟨b2, 0, none⟩)]
      (cel b2 208 [.pointer (some ⟨bc, 0, none⟩)] :: (ckM bc task rv ra rs Ao k co xs ++ [mp Value.string rv (setM C.vars), mp Value.string ra (setM C.arrays), rmp Value.string rs (setM C.shared)]))
      (Ret (fun v N => v = .tuple #[] ∧ ∃ A' c' xs', N = cel b2 208 [.pointer (some ⟨bc, 0, none⟩)] :: (ckM bc task rv ra rs A' (k + hitN C name) c' xs' ++ [mp Value.string rv (setM (insV C name).vars), mp Value.string ra (setM (insV C name).arrays)])) noP) := by
  refine Spec.enter (args := [_, _, _]) Tryz.func131 rfl rfl rfl (fun F => ?_)
  refine CJ.seqI (σ := Option Addr × Nat × Nat × List Value) (fun s => s.2.1 = k + hitN C name) (fun _ => [(0, .string name), (1, .map (some rv))])
    (fun s => cel b2 208 [.pointer (some ⟨bc, 0, none⟩)] :: (ckM bc task rv ra rs s.1 s.2.1 s.2.2.1 s.2.2.2 ++ (mp Value.string rv (setM C.vars) :: mp Value.string ra (setM C.arrays) :: F))) ?_ ?_
  · refine kAuto ?_
    have hadd : ∀ (M : List HProp), Gives M (rrow 3 1 (.slice none 0 0) 0 [] :: M) := fun M => rrow_nil _ _
    cases h1 : C.shared name
    · refine kAuto ?_
      cases h2 : C.vars name
      · refine kAuto ?_
        cases h3 : C.arrays name
        · refine kAuto ?_
          refine XJ.meet (Ao, k, co, xs) ?_ (by exact kEsub) (by exact kGives)
          simp [hitN, h1, h2, h3]
        · refine kAuto ?_
          refine RL.gives (hadd _) ?_
          (apply RL.callK; exact kEv; exact inferInstance; exact kEvl; rotate_left; exact (add_spec w0 bc task (.map (some rv)) (.map (some ra)) (.map (some rs)) Ao k co xs none 0 0 [] 8 name hk (by omega)); rotate_right; exact (by (repeat (first | exact Takes.nil _ | (apply Takes.cons; (repeat (first | exact Takes.pers Pers.rmp | exact Takes.pers Pers.rrow | exact Takes.ro | exact Takes.here _ _ | apply Takes.there)))))); exact rfl)
          rintro _ _ ⟨rfl, A', c', xs', rfl⟩
          refine kAuto ?_
          refine XJ.meet (A', k + 1, c', xs') ?_ (by exact kEsub) (by exact kGives)
          simp [hitN, h1, h2, h3]
      · refine kAuto ?_
        refine RL.gives (hadd _) ?_
        (apply RL.callK; exact kEv; exact inferInstance; exact kEvl; rotate_left; exact (add_spec w0 bc task (.map (some rv)) (.map (some ra)) (.map (some rs)) Ao k co xs none 0 0 [] 8 name hk (by omega)); rotate_right; exact (by (repeat (first | exact Takes.nil _ | (apply Takes.cons; (repeat (first | exact Takes.pers Pers.rmp | exact Takes.pers Pers.rrow | exact Takes.ro | exact Takes.here _ _ | apply Takes.there)))))); exact rfl)
        rintro _ _ ⟨rfl, A', c', xs', rfl⟩
        refine kAuto ?_
        refine XJ.meet (A', k + 1, c', xs') ?_ (by exact kEsub) (by exact kGives)
        simp [hitN, h1, h2]
    · refine kAuto ?_
      refine RL.gives (hadd _) ?_
      (apply RL.callK; exact kEv; exact inferInstance; exact kEvl; rotate_left; exact (add_spec w0 bc task (.map (some rv)) (.map (some ra)) (.map (some rs)) Ao k co xs none 0 0 [] 8 name hk (by omega)); rotate_right; exact (by (repeat (first | exact Takes.nil _ | (apply Takes.cons; (repeat (first | exact Takes.pers Pers.rmp | exact Takes.pers Pers.rrow | exact Takes.ro | exact Takes.here _ _ | apply Takes.there)))))); exact rfl)
      rintro _ _ ⟨rfl, A', c', xs', rfl⟩
      refine kAuto ?_
      refine XJ.meet (A', k + 1, c', xs') ?_ (by exact kEsub) (by exact kGives)
      simp [hitN, h1]
  rintro ⟨A1, k1, c1, xs1⟩ hk1
  simp only at hk1
  subst hk1
  refine kAuto ?_
  (apply RL.mapUpdate (enc := Value.string) (r := rv); exact kEv; exact kEv; exact kEv; exact kTake)
  rw [setM_upd]
  refine kAuto ?_
  exact XJ.end0 rfl (cel b2 208 [.pointer (some ⟨bc, 0, none⟩)] :: (ckM bc task rv ra rs A1 (k + hitN C name) c1 xs1 ++ [mp Value.string rv (setM (insV C name).vars), mp Value.string ra (setM (insV C name).arrays)])) (by exact kGives) ⟨rfl, A1, c1, xs1, rfl⟩
theorem declA_spec (w0 : World) (b2 bc : Nat) (task : Int) (rv ra rs : Nat) (Ao : Option Addr) (k co : Nat) (xs : List Value) (C : Ctx) (name : ByteArray) (hk : k ≤ 100000000000) :
    Spec Tryz.prog w0 131 #[.string name, .map (some ra), .pointer (some ⟨b2, 0, none⟩)]
      (cel b2 208 [.pointer (some ⟨bc, 0, none⟩)] :: (ckM bc task rv ra rs Ao k co xs ++ [mp Value.string rv (setM C.vars), mp Value.string ra (setM C.arrays), rmp Value.string rs (setM C.shared)]))
      (Ret (fun v N => v = .tuple #[] ∧ ∃ A' c' xs', N = cel b2 208 [.pointer (some ⟨bc, 0, none⟩)] :: (ckM bc task rv ra rs A' (k + hitN C name) c' xs' ++ [mp Value.string rv (setM (insA C name).vars), mp Value.string ra (setM (insA C name).arrays)])) noP) := by
  refine Spec.enter (args := [_, _, _]) Tryz.func131 rfl rfl rfl (fun F => ?_)
  refine CJ.seqI (σ := Option Addr × Nat × Nat × List Value) (fun s => s.2.1 = k + hitN C name) (fun _ => [(0, .string name), (1, .map (some ra))])
    (fun s => cel b2 208 [.pointer (some ⟨bc, 0, none⟩)] :: (ckM bc task rv ra rs s.1 s.2.1 s.2.2.1 s.2.2.2 ++ (mp Value.string rv (setM C.vars) :: mp Value.string ra (setM C.arrays) :: F))) ?_ ?_
  · refine kAuto ?_
    have hadd : ∀ (M : List HProp), Gives M (rrow 3 1 (.slice none 0 0) 0 [] :: M) := fun M => rrow_nil _ _
    cases h1 : C.shared name
    · refine kAuto ?_
      cases h2 : C.vars name
      · refine kAuto ?_
        cases h3 : C.arrays name
        · refine kAuto ?_
          refine XJ.meet (Ao, k, co, xs) ?_ (by exact kEsub) (by exact kGives)
          simp [hitN, h1, h2, h3]
        · refine kAuto ?_
          refine RL.gives (hadd _) ?_
          (apply RL.callK; exact kEv; exact inferInstance; exact kEvl; rotate_left; exact (add_spec w0 bc task (.map (some rv)) (.map (some ra)) (.map (some rs)) Ao k co xs none 0 0 [] 8 name hk (by omega)); rotate_right; exact (by (repeat (first | exact Takes.nil _ | (apply Takes.cons; (repeat (first | exact Takes.pers Pers.rmp | exact Takes.pers Pers.rrow | exact Takes.ro | exact Takes.here _ _ | apply Takes.there)))))); exact rfl)
          rintro _ _ ⟨rfl, A', c', xs', rfl⟩
          refine kAuto ?_
          refine XJ.meet (A', k + 1, c', xs') ?_ (by exact kEsub) (by exact kGives)
          simp [hitN, h1, h2, h3]
      · refine kAuto ?_
        refine RL.gives (hadd _) ?_
        (apply RL.callK; exact kEv; exact inferInstance; exact kEvl; rotate_left; exact (add_spec w0 bc task (.map (some rv)) (.map (some ra)) (.map (some rs)) Ao k co xs none 0 0 [] 8 name hk (by omega)); rotate_right; exact (by (repeat (first | exact Takes.nil _ | (apply Takes.cons; (repeat (first | exact Takes.pers Pers.rmp | exact Takes.pers Pers.rrow | exact Takes.ro | exact Takes.here _ _ | apply Takes.there)))))); exact rfl)
        rintro _ _ ⟨rfl, A', c', xs', rfl⟩
        refine kAuto ?_
        refine XJ.meet (A', k + 1, c', xs') ?_ (by exact kEsub) (by exact kGives)
        simp [hitN, h1, h2]
    · refine kAuto ?_
      refine RL.gives (hadd _) ?_
      (apply RL.callK; exact kEv; exact inferInstance; exact kEvl; rotate_left; exact (add_spec w0 bc task (.map (some rv)) (.map (some ra)) (.map (some rs)) Ao k co xs none 0 0 [] 8 name hk (by omega)); rotate_right; exact (by (repeat (first | exact Takes.nil _ | (apply Takes.cons; (repeat (first | exact Takes.pers Pers.rmp | exact Takes.pers Pers.rrow | exact Takes.ro | exact Takes.here _ _ | apply Takes.there)))))); exact rfl)
      rintro _ _ ⟨rfl, A', c', xs', rfl⟩
      refine kAuto ?_
      refine XJ.meet (A', k + 1, c', xs') ?_ (by exact kEsub) (by exact kGives)
      simp [hitN, h1]
  rintro ⟨A1, k1, c1, xs1⟩ hk1
  simp only at hk1
  subst hk1
  refine kAuto ?_
  (apply RL.mapUpdate (enc := Value.string) (r := ra); exact kEv; exact kEv; exact kEv; exact kTake)
  rw [setM_upd]
  refine kAuto ?_
  exact XJ.end0 rfl (cel b2 208 [.pointer (some ⟨bc, 0, none⟩)] :: (ckM bc task rv ra rs A1 (k + hitN C name) c1 xs1 ++ [mp Value.string rv (setM (insA C name).vars), mp Value.string ra (setM (insA C name).arrays)])) (by exact kGives) ⟨rfl, A1, c1, xs1, rfl⟩
end Go.Proofs.YtgmapenlgammfaaGreatDoor
