import Derived.Test.YtgmapenlgammfaaGreatDoorGJa
set_option linter.all false
/- The reference's statements: Lock, If. -/
namespace Go.Proofs.YtgmapenlgammfaaGreatDoor
open Go
section
variable {w0 : World} {R : RPar} {E : JE} {C : Ctx} {lens : List Nat} {S : Scope}
theorem rlock_spec (F0 : RefF w0 R E C lens) (n : Int) (s : ByteArray) (nb : Int) (sb : ByteArray) (l : List Node) (hb : ROK w0 R E C lens 55 (.mk 47 nb sb l) (seqJ (l.map (execN E))) S) :
    ROK w0 R E C lens 92 (.mk 46 n s [.mk 47 nb sb l]) (execN E (.mk 46 n s [.mk 47 nb sb l])) S := by
  intro t ncs hI hR hsz
  have hRn := hR
  obtain ⟨B, cp, rfl, hcap, hN⟩ := hR.kids
  have hsk : ∀ m ∈ [Node.mk 47 nb sb l], m.size < (Node.mk 46 n s [Node.mk 47 nb sb l]).size := fun m hm => Node.size_kid (n := .mk 46 n s [Node.mk 47 nb sb l]) (by simpa [Node.kids] using hm)
  simp only [Node.kind, Node.num, Node.name, Node.kids] at hRn hcap hN
  rw [exec_lock]
  refine Spec.enter (args := [_, _]) Tryz.func92 rfl rfl rfl (fun F => ?_)
  refine kAutoB ?_
  (apply RL.boxR; exact kEv; exact rfl; intro b2)
  (apply RL.box; exact kEv; exact rfl; intro b3)
  (apply RL.alloc; exact rfl; exact rfl; intro b4)
  refine kAutoB ?_
  (apply RL.callIs; exact kEv; exact inferInstance; exact kEvl; exact (rstep_R w0 F0 hI); exact rfl)
  refine kAutoB ?_
  refine RL.s0 (OpS.storeA (q := 7) kEv kEv (by exact rfl) (vOne R _) (Takes.there (Takes.here _ _)) (by exact Nat.le_refl 7)) ?_ (fun _ _ h => h.elim)
  rintro _ _ rfl
  refine kAutoB ?_
  have hsm := up_m t R (stepJ_same E t.r.1).1 (stepJ_same E t.r.1).2.1
  cases hst : (stepJ E t.r.1).2 with
  | some e =>
    rw [bindJ_some hst]
    rw [show (errOf (t.up (stepJ E t.r.1)).r != 0) = true by
      have hne : e ≠ 0 := by
        rintro rfl
        exact ErrN.step E t.r.1 hst
      rw [errOf_some (r := (t.up (stepJ E t.r.1)).r) hst]
      simpa using hne]
    refine kAutoB ?_
    refine RL.s0 (OpS.storeA (q := 7) kEv kEv (by exact rfl) (vOne R _) (Takes.there (Takes.here _ _)) (by exact Nat.le_refl 7)) ?_ (fun _ _ h => h.elim)
    rintro _ _ rfl
    refine kAutoB ?_
    refine XJ.retC rfl rfl (HasAt.pt (Takes.here _ _) atAll) rfl ((t.up (stepJ E t.r.1)).m R) ?_ ⟨t.up (stepJ E t.r.1), ?_, hI.okUp (stepJ_same E t.r.1).1 (stepJ_same E t.r.1).2.2.2, rfl, rfl⟩
    · rw [hsm]
      exact Gives.drop (Gives.drop (Gives.drop (Gives.refl _)))
    · rw [← hst]; rfl
  | none =>
  have hI1 := hI.stepI hst
  rw [bindJ_none hst]
  rw [show (errOf (t.up (stepJ E t.r.1)).r != 0) = false by rw [errOf_none (r := (t.up (stepJ E t.r.1)).r) hst]; rfl]
  refine kAutoB ?_
  refine CJ.gives (M' := cel b3 45 ((t.up (stepJ E t.r.1)).v R) :: rcel b2 50 _ :: cel b4 45 zeroE :: ((t.up (stepJ E t.r.1)).m R ++ F)) (by rw [hsm]; exact kGives) ?_
  refine CJ.env (L' := [(4, .pointer (some ⟨b4, 0, none⟩)), (3, .pointer (some ⟨b3, 0, none⟩)), (2, .pointer (some ⟨b2, 0, none⟩))]) (by exact kEsub) ?_
  obtain ⟨t1, ht1⟩ : ∃ t1 : RSt, t1 = t.up (stepJ E t.r.1) := ⟨_, rfl⟩
  have hvs : t.vs = t1.vs := by rw [ht1]; rfl
  have hr1 : stepJ E t.r.1 = t1.r := by rw [ht1]; rfl
  rw [← ht1] at hI1 ⊢
  rw [hvs] at hsz ⊢
  rw [hr1]
  clear hsm hst hI hr1 hvs ht1
  have hsz' : ∀ m ∈ [Node.mk 47 nb sb l], t1.vs.length + m.size ≤ 5000 := fun m hm => by have := hsk m hm; omega
  · skip
    obtain ⟨bq, o, r, e1, hbs, hrl, hr⟩ := hN.at_ 0 (by simp)
    first | subst e1 | (simp only [Option.some.injEq, Addr.mk.injEq, and_true] at e1; obtain ⟨rfl, rfl⟩ := e1)
    have hq := hb t1 r hI1 hr (hsz' _ (by simp))
    (refine CJ.draws mixed 6 [rcel b2 _ _, cel b3 _ _] (by exact kGives) (dom_of (by kernel_rfl)) ?_)
    ((first | refine kAjB 0 ?_ | refine kAjS 0 ?_); (first | refine kAjB 1 ?_ | refine kAjS 1 ?_))
    (apply AJ.pur (i := 2); exact rfl; exact rfl; exact rfl; exact rfl; exact rfl; exact rfl; exact rfl; exact rfl; exact rfl; exact OpP.indexAddrC 0 kEv rfl (show 0 < 1 by decide) (o + 0 * 4) rfl)
    (apply AJ.pur (i := 3); exact rfl; exact rfl; exact rfl; exact rfl; exact rfl; exact rfl; exact rfl; exact rfl; exact rfl; (apply OpP.loadA; exact kEv; exact HasAt.base hbs; exact hrl))
    ((first | refine kAjB 4 ?_ | refine kAjS 4 ?_))
    (refine AJ.loud1 (i := 5) (by kernel_rfl) (by kernel_rfl) rfl (by kernel_rfl) (by kernel_rfl) rfl rfl rfl rfl rfl rfl (OpS.call (by exact kEv) inferInstance (by exact kEvl) (Takes.there1 (Takes.there1 (Takes.there1 (Takes.app _ _)))) hq) ?_ ?_)
    rotate_left
    · rintro _ _ ⟨_, h, _⟩; exact h.elim
    rintro _ _ ⟨N, ⟨q, he2, hq, rfl, rfl⟩, rfl⟩
    refine ⟨Gives.skipApp (by exact kGives), ?_⟩
    (refine AJ.tail (by kernel_rfl) (by kernel_rfl) rfl (by kernel_rfl) (by kernel_rfl) (by kernel_rfl) ?_)
    refine RL.s0 (OpS.storeA (q := 7) kEv kEv (by exact rfl) (vOne R q) (Takes.appR _ (Takes.there (Takes.there (Takes.here _ _)))) (by exact Nat.le_refl 7)) ?_ (fun _ _ h => h.elim)
    rintro _ _ rfl
    refine kAutoB ?_
    exact XJ.retC rfl rfl (HasAt.pt (Takes.here _ _) atAll) rfl (q.m R) (Gives.drop (Gives.dropMid (B := [_, _]))) ⟨q, he2, hq, rfl, rfl⟩
theorem rif_spec (F0 : RefF w0 R E C lens) (n : Int) (s : ByteArray) (c : Node) (hB0 : isB c 1 = true) (hw : WsE C S c) (na : Int) (sa : ByteArray) (la : List Node) (nb : Int) (sb : ByteArray) (lb : List Node)
    (ha : ROK w0 R E C lens 55 (.mk 47 na sa la) (seqJ (la.map (execN E))) S) (hb : ROK w0 R E C lens 55 (.mk 47 nb sb lb) (seqJ (lb.map (execN E))) S) :
    ROK w0 R E C lens 92 (.mk 41 n s [c, .mk 47 na sa la, .mk 47 nb sb lb]) (execN E (.mk 41 n s [c, .mk 47 na sa la, .mk 47 nb sb lb])) S := by
  intro t ncs hI hR hsz
  have hRn := hR
  obtain ⟨B, cp, rfl, hcap, hN⟩ := hR.kids
  have hsk : ∀ m ∈ [c, Node.mk 47 na sa la, Node.mk 47 nb sb lb], m.size < (Node.mk 41 n s [c, Node.mk 47 na sa la, Node.mk 47 nb sb lb]).size := fun m hm => Node.size_kid (n := .mk 41 n s [c, Node.mk 47 na sa la, Node.mk 47 nb sb lb]) (by simpa [Node.kids] using hm)
  simp only [Node.kind, Node.num, Node.name, Node.kids] at hRn hcap hN
  rw [exec_if]
  refine Spec.enter (args := [_, _]) Tryz.func92 rfl rfl rfl (fun F => ?_)
  refine kAutoB ?_
  (apply RL.boxR; exact kEv; exact rfl; intro b2)
  (apply RL.box; exact kEv; exact rfl; intro b3)
  (apply RL.alloc; exact rfl; exact rfl; intro b4)
  refine kAutoB ?_
  (apply RL.callIs; exact kEv; exact inferInstance; exact kEvl; exact (rstep_R w0 F0 hI); exact rfl)
  refine kAutoB ?_
  refine RL.s0 (OpS.storeA (q := 7) kEv kEv (by exact rfl) (vOne R _) (Takes.there (Takes.here _ _)) (by exact Nat.le_refl 7)) ?_ (fun _ _ h => h.elim)
  rintro _ _ rfl
  refine kAutoB ?_
  have hsm := up_m t R (stepJ_same E t.r.1).1 (stepJ_same E t.r.1).2.1
  cases hst : (stepJ E t.r.1).2 with
  | some e =>
    rw [bindJ_some hst]
    rw [show (errOf (t.up (stepJ E t.r.1)).r != 0) = true by
      have hne : e ≠ 0 := by
        rintro rfl
        exact ErrN.step E t.r.1 hst
      rw [errOf_some (r := (t.up (stepJ E t.r.1)).r) hst]
      simpa using hne]
    refine kAutoB ?_
    refine RL.s0 (OpS.storeA (q := 7) kEv kEv (by exact rfl) (vOne R _) (Takes.there (Takes.here _ _)) (by exact Nat.le_refl 7)) ?_ (fun _ _ h => h.elim)
    rintro _ _ rfl
    refine kAutoB ?_
    refine XJ.retC rfl rfl (HasAt.pt (Takes.here _ _) atAll) rfl ((t.up (stepJ E t.r.1)).m R) ?_ ⟨t.up (stepJ E t.r.1), ?_, hI.okUp (stepJ_same E t.r.1).1 (stepJ_same E t.r.1).2.2.2, rfl, rfl⟩
    · rw [hsm]
      exact Gives.drop (Gives.drop (Gives.drop (Gives.refl _)))
    · rw [← hst]; rfl
  | none =>
  have hI1 := hI.stepI hst
  rw [bindJ_none hst]
  rw [show (errOf (t.up (stepJ E t.r.1)).r != 0) = false by rw [errOf_none (r := (t.up (stepJ E t.r.1)).r) hst]; rfl]
  refine kAutoB ?_
  refine CJ.gives (M' := cel b3 45 ((t.up (stepJ E t.r.1)).v R) :: rcel b2 50 _ :: cel b4 45 zeroE :: ((t.up (stepJ E t.r.1)).m R ++ F)) (by rw [hsm]; exact kGives) ?_
  refine CJ.env (L' := [(4, .pointer (some ⟨b4, 0, none⟩)), (3, .pointer (some ⟨b3, 0, none⟩)), (2, .pointer (some ⟨b2, 0, none⟩))]) (by exact kEsub) ?_
  obtain ⟨t1, ht1⟩ : ∃ t1 : RSt, t1 = t.up (stepJ E t.r.1) := ⟨_, rfl⟩
  have hvs : t.vs = t1.vs := by rw [ht1]; rfl
  have hr1 : stepJ E t.r.1 = t1.r := by rw [ht1]; rfl
  rw [← ht1] at hI1 ⊢
  rw [hvs] at hsz ⊢
  rw [hr1]
  clear hsm hst hI hr1 hvs ht1
  have hsz' : ∀ m ∈ [c, Node.mk 47 na sa la, Node.mk 47 nb sb lb], t1.vs.length + m.size ≤ 5000 := fun m hm => by have := hsk m hm; omega
  have hwc : ∀ e, evJ E t1.r.1 c = .error e → e ≠ 0 := fun e h => wsE_ne0 hw e h
  obtain ⟨bq0, o0, r0, e1, hbs0, hrl0, hr0⟩ := hN.at_ 0 (by simp)
  first | subst e1 | (simp only [Option.some.injEq, Addr.mk.injEq, and_true] at e1; obtain ⟨rfl, rfl⟩ := e1)
  (refine CJ.draws mixed 12 [rcel b2 _ _, cel b3 _ _] (by exact kGives) (dom_of (by kernel_rfl)) ?_)
  ((first | refine kAjB 0 ?_ | refine kAjS 0 ?_); (first | refine kAjB 1 ?_ | refine kAjS 1 ?_))
  (apply AJ.pur (i := 2); exact rfl; exact rfl; exact rfl; exact rfl; exact rfl; exact rfl; exact rfl; exact rfl; exact rfl; exact OpP.indexAddrC 0 kEv rfl (show 0 < 3 by decide) (o0 + 0 * 4) rfl)
  (apply AJ.pur (i := 3); exact rfl; exact rfl; exact rfl; exact rfl; exact rfl; exact rfl; exact rfl; exact rfl; exact rfl; (apply OpP.loadA; exact kEv; exact HasAt.base hbs0; exact hrl0))
  ((first | refine kAjB 4 ?_ | refine kAjS 4 ?_); (first | refine kAjB 5 ?_ | refine kAjS 5 ?_))
  (refine AJ.loud1 (i := 6) (by kernel_rfl) (by kernel_rfl) rfl (by kernel_rfl) (by kernel_rfl) rfl rfl rfl rfl rfl rfl (OpS.callAll (fun w h mm sa => rexpr_R F0 hI1 (by omega) (Z := F) (mm.tail.tail.tail) sa (by have := hsz' c (by simp); simp only [List.getElem_cons_zero, List.getElem_cons_succ]; omega) hr0 hB0) (by exact kEv) inferInstance (by exact kEvl) (by exact rfl)) ?_ ?_)
  rotate_left
  · rintro _ _ h; exact h.elim
  rintro _ _ ⟨N, ⟨rfl, rfl⟩, rfl⟩
  refine ⟨by exact kGives, ?_⟩
  ((first | refine kAjB 7 ?_ | refine kAjS 7 ?_); (first | refine kAjB 8 ?_ | refine kAjS 8 ?_); (first | refine kAjB 9 ?_ | refine kAjS 9 ?_); (first | refine kAjB 10 ?_ | refine kAjS 10 ?_); (first | refine kAjB 11 ?_ | refine kAjS 11 ?_))
  (refine AJ.done (by kernel_rfl) (by kernel_rfl) rfl (by kernel_rfl) ?_)
  refine XJ.gives (M' := cel b3 45 (t1.v R) :: rcel b2 50 _ :: cel b4 45 zeroE :: (t1.m R ++ F)) (Gives.refl _) ?_
  simp only [List.getElem_cons_zero]
  unfold ifJ
  cases hev : evJ E t1.r.1 c with
  | error e =>
    have hne := hwc e hev
    simp only [resP]
    refine kAutoB ?_
    rw [show (e != 0) = true by simpa using hne]
    refine kAutoB ?_
    (apply RL.store; exact kEv; exact kEv; exact kTake; exact rfl; exact rfl; exact rfl)
    refine kAutoB ?_
    refine RL.gives (M' := cel b3 45 ((t1.up (t1.r.1, some e)).v R) :: cel b4 45 zeroE :: (t1.m R ++ F)) (by exact kGives) ?_
    refine kAutoB ?_
    refine RL.s0 (OpS.storeA (q := 7) kEv kEv (by exact rfl) (vOne R (t1.up (t1.r.1, some e))) (Takes.there (Takes.here _ _)) (by exact Nat.le_refl 7)) ?_ (fun _ _ h => h.elim)
    rintro _ _ rfl
    refine kAutoB ?_
    exact XJ.retC rfl rfl (HasAt.pt (Takes.here _ _) atAll) rfl ((t1.up (t1.r.1, some e)).m R) (Gives.drop (Gives.drop (Gives.refl _))) ⟨t1.up (t1.r.1, some e), rfl, hI1.okUp rfl rfl, rfl, rfl⟩
  | ok x =>
    simp only [resP]
    refine kAutoB ?_
    cases hx0 : (x != 0)
    · have hx : x = 0 := by simpa using hx0
      rw [if_pos hx]
      refine kAutoB ?_
      obtain ⟨bq, o, r, e1, hbs, hrl, hr⟩ := hN.at_ 2 (by simp)
      first | subst e1 | (simp only [Option.some.injEq, Addr.mk.injEq, and_true] at e1; obtain ⟨rfl, rfl⟩ := e1)
      have hq := hb t1 r hI1 hr (hsz' _ (by simp))
      (refine CJ.draws mixed 6 [rcel b2 _ _, cel b3 _ _] (by exact kGives) (dom_of (by kernel_rfl)) ?_)
      ((first | refine kAjB 0 ?_ | refine kAjS 0 ?_); (first | refine kAjB 1 ?_ | refine kAjS 1 ?_))
      (apply AJ.pur (i := 2); exact rfl; exact rfl; exact rfl; exact rfl; exact rfl; exact rfl; exact rfl; exact rfl; exact rfl; exact OpP.indexAddrC 2 kEv rfl (show 2 < 3 by decide) (o0 + 2 * 4) rfl)
      (apply AJ.pur (i := 3); exact rfl; exact rfl; exact rfl; exact rfl; exact rfl; exact rfl; exact rfl; exact rfl; exact rfl; (apply OpP.loadA; exact kEv; exact HasAt.base hbs; exact hrl))
      ((first | refine kAjB 4 ?_ | refine kAjS 4 ?_))
      (refine AJ.loud1 (i := 5) (by kernel_rfl) (by kernel_rfl) rfl (by kernel_rfl) (by kernel_rfl) rfl rfl rfl rfl rfl rfl (OpS.call (by exact kEv) inferInstance (by exact kEvl) (Takes.there1 (Takes.there1 (Takes.there1 (Takes.app _ _)))) hq) ?_ ?_)
      rotate_left
      · rintro _ _ ⟨_, h, _⟩; exact h.elim
      rintro _ _ ⟨N, ⟨q, he2, hq, rfl, rfl⟩, rfl⟩
      refine ⟨Gives.skipApp (by exact kGives), ?_⟩
      (refine AJ.tail (by kernel_rfl) (by kernel_rfl) rfl (by kernel_rfl) (by kernel_rfl) (by kernel_rfl) ?_)
      refine RL.s0 (OpS.storeA (q := 7) kEv kEv (by exact rfl) (vOne R q) (Takes.appR _ (Takes.there (Takes.there (Takes.here _ _)))) (by exact Nat.le_refl 7)) ?_ (fun _ _ h => h.elim)
      rintro _ _ rfl
      refine kAutoB ?_
      exact XJ.retC rfl rfl (HasAt.pt (Takes.here _ _) atAll) rfl (q.m R) (Gives.drop (Gives.dropMid (B := [_, _]))) ⟨q, he2, hq, rfl, rfl⟩
    · have hx : ¬ x = 0 := by simpa using hx0
      rw [if_neg hx]
      refine kAutoB ?_
      obtain ⟨bq, o, r, e1, hbs, hrl, hr⟩ := hN.at_ 1 (by simp)
      first | subst e1 | (simp only [Option.some.injEq, Addr.mk.injEq, and_true] at e1; obtain ⟨rfl, rfl⟩ := e1)
      have hq := ha t1 r hI1 hr (hsz' _ (by simp))
      (refine CJ.draws mixed 6 [rcel b2 _ _, cel b3 _ _] (by exact kGives) (dom_of (by kernel_rfl)) ?_)
      ((first | refine kAjB 0 ?_ | refine kAjS 0 ?_); (first | refine kAjB 1 ?_ | refine kAjS 1 ?_))
      (apply AJ.pur (i := 2); exact rfl; exact rfl; exact rfl; exact rfl; exact rfl; exact rfl; exact rfl; exact rfl; exact rfl; exact OpP.indexAddrC 1 kEv rfl (show 1 < 3 by decide) (o0 + 1 * 4) rfl)
      (apply AJ.pur (i := 3); exact rfl; exact rfl; exact rfl; exact rfl; exact rfl; exact rfl; exact rfl; exact rfl; exact rfl; (apply OpP.loadA; exact kEv; exact HasAt.base hbs; exact hrl))
      ((first | refine kAjB 4 ?_ | refine kAjS 4 ?_))
      (refine AJ.loud1 (i := 5) (by kernel_rfl) (by kernel_rfl) rfl (by kernel_rfl) (by kernel_rfl) rfl rfl rfl rfl rfl rfl (OpS.call (by exact kEv) inferInstance (by exact kEvl) (Takes.there1 (Takes.there1 (Takes.there1 (Takes.app _ _)))) hq) ?_ ?_)
      rotate_left
      · rintro _ _ ⟨_, h, _⟩; exact h.elim
      rintro _ _ ⟨N, ⟨q, he2, hq, rfl, rfl⟩, rfl⟩
      refine ⟨Gives.skipApp (by exact kGives), ?_⟩
      (refine AJ.tail (by kernel_rfl) (by kernel_rfl) rfl (by kernel_rfl) (by kernel_rfl) (by kernel_rfl) ?_)
      refine RL.s0 (OpS.storeA (q := 7) kEv kEv (by exact rfl) (vOne R q) (Takes.appR _ (Takes.there (Takes.there (Takes.here _ _)))) (by exact Nat.le_refl 7)) ?_ (fun _ _ h => h.elim)
      rintro _ _ rfl
      refine kAutoB ?_
      exact XJ.retC rfl rfl (HasAt.pt (Takes.here _ _) atAll) rfl (q.m R) (Gives.drop (Gives.dropMid (B := [_, _]))) ⟨q, he2, hq, rfl, rfl⟩
end
end Go.Proofs.YtgmapenlgammfaaGreatDoor

/- The reference's statements: Out, assignment, In. -/
namespace Go.Proofs.YtgmapenlgammfaaGreatDoor
open Go
section
variable {w0 : World} {R : RPar} {E : JE} {C : Ctx} {lens : List Nat} {S : Scope}
theorem rout_spec (F0 : RefF w0 R E C lens) (n : Int) (s : ByteArray) (c : Node) (hB0 : isB c 1 = true) (hw : WsE C S c) :
    ROK w0 R E C lens 92 (.mk 45 n s [c]) (execN E (.mk 45 n s [c])) S := by
  intro t ncs hI hR hsz
  have hRn := hR
  obtain ⟨B, cp, rfl, hcap, hN⟩ := hR.kids
  have hsk : ∀ m ∈ [c], m.size < (Node.mk 45 n s [c]).size := fun m hm => Node.size_kid (n := .mk 45 n s [c]) (by simpa [Node.kids] using hm)
  simp only [Node.kind, Node.num, Node.name, Node.kids] at hRn hcap hN
  rw [exec_out]
  refine Spec.enter (args := [_, _]) Tryz.func92 rfl rfl rfl (fun F => ?_)
  refine kAutoB ?_
  (apply RL.boxR; exact kEv; exact rfl; intro b2)
  (apply RL.box; exact kEv; exact rfl; intro b3)
  (apply RL.alloc; exact rfl; exact rfl; intro b4)
  refine kAutoB ?_
  (apply RL.callIs; exact kEv; exact inferInstance; exact kEvl; exact (rstep_R w0 F0 hI); exact rfl)
  refine kAutoB ?_
  refine RL.s0 (OpS.storeA (q := 7) kEv kEv (by exact rfl) (vOne R _) (Takes.there (Takes.here _ _)) (by exact Nat.le_refl 7)) ?_ (fun _ _ h => h.elim)
  rintro _ _ rfl
  refine kAutoB ?_
  have hsm := up_m t R (stepJ_same E t.r.1).1 (stepJ_same E t.r.1).2.1
  cases hst : (stepJ E t.r.1).2 with
  | some e =>
    rw [bindJ_some hst]
    rw [show (errOf (t.up (stepJ E t.r.1)).r != 0) = true by
      have hne : e ≠ 0 := by
        rintro rfl
        exact ErrN.step E t.r.1 hst
      rw [errOf_some (r := (t.up (stepJ E t.r.1)).r) hst]
      simpa using hne]
    refine kAutoB ?_
    refine RL.s0 (OpS.storeA (q := 7) kEv kEv (by exact rfl) (vOne R _) (Takes.there (Takes.here _ _)) (by exact Nat.le_refl 7)) ?_ (fun _ _ h => h.elim)
    rintro _ _ rfl
    refine kAutoB ?_
    refine XJ.retC rfl rfl (HasAt.pt (Takes.here _ _) atAll) rfl ((t.up (stepJ E t.r.1)).m R) ?_ ⟨t.up (stepJ E t.r.1), ?_, hI.okUp (stepJ_same E t.r.1).1 (stepJ_same E t.r.1).2.2.2, rfl, rfl⟩
    · rw [hsm]
      exact Gives.drop (Gives.drop (Gives.drop (Gives.refl _)))
    · rw [← hst]; rfl
  | none =>
  have hI1 := hI.stepI hst
  rw [bindJ_none hst]
  rw [show (errOf (t.up (stepJ E t.r.1)).r != 0) = false by rw [errOf_none (r := (t.up (stepJ E t.r.1)).r) hst]; rfl]
  refine kAutoB ?_
  refine CJ.gives (M' := cel b3 45 ((t.up (stepJ E t.r.1)).v R) :: rcel b2 50 _ :: cel b4 45 zeroE :: ((t.up (stepJ E t.r.1)).m R ++ F)) (by rw [hsm]; exact kGives) ?_
  refine CJ.env (L' := [(4, .pointer (some ⟨b4, 0, none⟩)), (3, .pointer (some ⟨b3, 0, none⟩)), (2, .pointer (some ⟨b2, 0, none⟩))]) (by exact kEsub) ?_
  obtain ⟨t1, ht1⟩ : ∃ t1 : RSt, t1 = t.up (stepJ E t.r.1) := ⟨_, rfl⟩
  have hvs : t.vs = t1.vs := by rw [ht1]; rfl
  have hr1 : stepJ E t.r.1 = t1.r := by rw [ht1]; rfl
  rw [← ht1] at hI1 ⊢
  rw [hvs] at hsz ⊢
  rw [hr1]
  clear hsm hst hI hr1 hvs ht1
  have hsz' : ∀ m ∈ [c], t1.vs.length + m.size ≤ 5000 := fun m hm => by have := hsk m hm; omega
  have hwc : ∀ e, evJ E t1.r.1 c = .error e → e ≠ 0 := fun e h => wsE_ne0 hw e h
  obtain ⟨bq0, o0, r0, e1, hbs0, hrl0, hr0⟩ := hN.at_ 0 (by simp)
  first | subst e1 | (simp only [Option.some.injEq, Addr.mk.injEq, and_true] at e1; obtain ⟨rfl, rfl⟩ := e1)
  (refine CJ.draws mixed 12 [rcel b2 _ _, cel b3 _ _] (by exact kGives) (dom_of (by kernel_rfl)) ?_)
  ((first | refine kAjB 0 ?_ | refine kAjS 0 ?_); (first | refine kAjB 1 ?_ | refine kAjS 1 ?_))
  (apply AJ.pur (i := 2); exact rfl; exact rfl; exact rfl; exact rfl; exact rfl; exact rfl; exact rfl; exact rfl; exact rfl; exact OpP.indexAddrC 0 kEv rfl (show 0 < 1 by decide) (o0 + 0 * 4) rfl)
  (apply AJ.pur (i := 3); exact rfl; exact rfl; exact rfl; exact rfl; exact rfl; exact rfl; exact rfl; exact rfl; exact rfl; (apply OpP.loadA; exact kEv; exact HasAt.base hbs0; exact hrl0))
  ((first | refine kAjB 4 ?_ | refine kAjS 4 ?_); (first | refine kAjB 5 ?_ | refine kAjS 5 ?_))
  (refine AJ.loud1 (i := 6) (by kernel_rfl) (by kernel_rfl) rfl (by kernel_rfl) (by kernel_rfl) rfl rfl rfl rfl rfl rfl (OpS.callAll (fun w h mm sa => rexpr_R F0 hI1 (by omega) (Z := F) (mm.tail.tail.tail) sa (by have := hsz' c (by simp); simp only [List.getElem_cons_zero, List.getElem_cons_succ]; omega) hr0 hB0) (by exact kEv) inferInstance (by exact kEvl) (by exact rfl)) ?_ ?_)
  rotate_left
  · rintro _ _ h; exact h.elim
  rintro _ _ ⟨N, ⟨rfl, rfl⟩, rfl⟩
  refine ⟨by exact kGives, ?_⟩
  ((first | refine kAjB 7 ?_ | refine kAjS 7 ?_); (first | refine kAjB 8 ?_ | refine kAjS 8 ?_); (first | refine kAjB 9 ?_ | refine kAjS 9 ?_); (first | refine kAjB 10 ?_ | refine kAjS 10 ?_); (first | refine kAjB 11 ?_ | refine kAjS 11 ?_))
  (refine AJ.done (by kernel_rfl) (by kernel_rfl) rfl (by kernel_rfl) ?_)
  refine XJ.gives (M' := cel b3 45 (t1.v R) :: rcel b2 50 _ :: cel b4 45 zeroE :: (t1.m R ++ F)) (Gives.refl _) ?_
  simp only [List.getElem_cons_zero]
  unfold outJ
  have hol := (hI1.st F0).2.2
  cases hev : evJ E t1.r.1 c with
  | error e =>
    have hne := hwc e hev
    simp only [resP]
    refine kAutoB ?_
    rw [show (e != 0) = true by simpa using hne]
    refine kAutoB ?_
    (apply RL.store; exact kEv; exact kEv; exact kTake; exact rfl; exact rfl; exact rfl)
    refine kAutoB ?_
    refine RL.gives (M' := cel b3 45 ((t1.up (t1.r.1, some e)).v R) :: cel b4 45 zeroE :: (t1.m R ++ F)) (by exact kGives) ?_
    refine kAutoB ?_
    refine RL.s0 (OpS.storeA (q := 7) kEv kEv (by exact rfl) (vOne R (t1.up (t1.r.1, some e))) (Takes.there (Takes.here _ _)) (by exact Nat.le_refl 7)) ?_ (fun _ _ h => h.elim)
    rintro _ _ rfl
    refine kAutoB ?_
    exact XJ.retC rfl rfl (HasAt.pt (Takes.here _ _) atAll) rfl ((t1.up (t1.r.1, some e)).m R) (Gives.drop (Gives.drop (Gives.refl _))) ⟨t1.up (t1.r.1, some e), rfl, hI1.okUp rfl rfl, rfl, rfl⟩
  | ok x =>
    simp only [resP]
    refine kAutoB ?_
    refine RL.bsl [.int .i64 n, .int .i32 x] rfl (by exact kEvl) (fun w => by kernel_rfl) rfl (fun bS => ?_)
    refine kAutoB ?_
    refine RL.gives (M' := cel bS 106 [.int .i64 n, .int .i32 x] :: cel b3 45 (t1.v R) :: rcel b2 50 _ :: cel b4 45 zeroE :: row 106 2 (.slice t1.Ao t1.r.1.out.length t1.co) t1.r.1.out.length (outCells t1.r.1.out) :: (cellsM (t1.cells R) t1.us t1.A t1.c ++ F)) (Gives.refl _) ?_
    (apply RL.s; exact (OpS.append (m := 1) (news := [.int .i64 n, .int .i32 x]) (by exact kEv) (by exact kEv) (Takes.there (Takes.there (Takes.there (Takes.there (Takes.here _ _))))) (fun h m => ⟨rfl, by simp [Value.oneCell'], .inr ⟨_, _, _, rfl, HasAt.pt (Takes.here _ _) atAll⟩⟩) (by show t1.r.1.out.length + 1 ≤ _; simp only [maxLen]; omega) (by omega)); exact rfl; rotate_left; exact (fun _ _ h => h.elim))
    rintro _ _ ⟨⟨A2, c2, rfl⟩, rfl⟩
    refine kAutoB ?_
    (apply RL.store; exact kEv; exact kEv; exact kTake; exact rfl; exact rfl; exact rfl)
    refine kAutoB ?_
    have hl : (t1.r.1.out ++ [(n, x)]).length = t1.r.1.out.length + 1 := by simp
    have hc : outCells (t1.r.1.out ++ [(n, x)]) = outCells t1.r.1.out ++ [.int .i64 n, .int .i32 x] := by simp [outCells, intV]
    have hm9 : (⟨({ t1.r.1 with out := t1.r.1.out ++ [(n, x)] }, none), t1.vs, t1.us, t1.A, t1.c, A2, c2⟩ : RSt).m R = row 106 2 (.slice A2 (t1.r.1.out.length + 1) c2) (t1.r.1.out.length + 1) (outCells t1.r.1.out ++ [.int .i64 n, .int .i32 x]) :: cellsM (t1.cells R) t1.us t1.A t1.c := by
      unfold RSt.m
      simp only [hl, hc]
      rfl
    have hv9 : (⟨({ t1.r.1 with out := t1.r.1.out ++ [(n, x)] }, none), t1.vs, t1.us, t1.A, t1.c, A2, c2⟩ : RSt).v R = setSeg (t1.v R) [.slice A2 (t1.r.1.out.length + 1) c2] (0 + 2) := by
      unfold RSt.v envV
      simp only [hl, errOf_none hI1.nn]
      rfl
    have h1 := vOne R (⟨({ t1.r.1 with out := t1.r.1.out ++ [(n, x)] }, none), t1.vs, t1.us, t1.A, t1.c, A2, c2⟩ : RSt)
    rw [hv9] at h1
    refine RL.s0 (OpS.storeA (q := 7) kEv kEv (by exact rfl) h1 (Takes.there (Takes.there (Takes.there (Takes.there (Takes.here _ _))))) (by exact Nat.le_refl 7)) ?_ (fun _ _ h => h.elim)
    rintro _ _ rfl
    refine kAutoB ?_
    refine XJ.retC rfl rfl (HasAt.pt (Takes.here _ _) atAll) rfl ((⟨({ t1.r.1 with out := t1.r.1.out ++ [(n, x)] }, none), t1.vs, t1.us, t1.A, t1.c, A2, c2⟩ : RSt).m R) ?_ ⟨⟨({ t1.r.1 with out := t1.r.1.out ++ [(n, x)] }, none), t1.vs, t1.us, t1.A, t1.c, A2, c2⟩, rfl, ⟨hI1.us, rfl, hI1.v32, fun _ => hI1.vars⟩, ?_, rfl⟩
    · rw [hm9]
      --DBG
      exact kGives
    · rw [hv9]
      rfl
end
end Go.Proofs.YtgmapenlgammfaaGreatDoor

/- The reference's statements: assignment, In. -/
namespace Go.Proofs.YtgmapenlgammfaaGreatDoor
open Go
section
variable {w0 : World} {R : RPar} {E : JE} {C : Ctx} {lens : List Nat} {S : Scope}
theorem rin_spec (F0 : RefF w0 R E C lens) (n : Int) (s : ByteArray) (p : Node) (hBp : isB p 2 = true) (hwp : WsP C S p) :
    ROK w0 R E C lens 92 (.mk 44 n s [p]) (execN E (.mk 44 n s [p])) S := by
  intro t ncs hI hR hsz
  have hRn := hR
  obtain ⟨B, cp, rfl, hcap, hN⟩ := hR.kids
  have hsk : ∀ m ∈ [p], m.size < (Node.mk 44 n s [p]).size := fun m hm => Node.size_kid (n := .mk 44 n s [p]) (by simpa [Node.kids] using hm)
  simp only [Node.kind, Node.num, Node.name, Node.kids] at hRn hcap hN
  rw [exec_in]
  refine Spec.enter (args := [_, _]) Tryz.func92 rfl rfl rfl (fun F => ?_)
  refine kAutoB ?_
  (apply RL.boxR; exact kEv; exact rfl; intro b2)
  (apply RL.box; exact kEv; exact rfl; intro b3)
  (apply RL.alloc; exact rfl; exact rfl; intro b4)
  refine kAutoB ?_
  (apply RL.callIs; exact kEv; exact inferInstance; exact kEvl; exact (rstep_R w0 F0 hI); exact rfl)
  refine kAutoB ?_
  refine RL.s0 (OpS.storeA (q := 7) kEv kEv (by exact rfl) (vOne R _) (Takes.there (Takes.here _ _)) (by exact Nat.le_refl 7)) ?_ (fun _ _ h => h.elim)
  rintro _ _ rfl
  refine kAutoB ?_
  have hsm := up_m t R (stepJ_same E t.r.1).1 (stepJ_same E t.r.1).2.1
  cases hst : (stepJ E t.r.1).2 with
  | some e =>
    rw [bindJ_some hst]
    rw [show (errOf (t.up (stepJ E t.r.1)).r != 0) = true by
      have hne : e ≠ 0 := by
        rintro rfl
        exact ErrN.step E t.r.1 hst
      rw [errOf_some (r := (t.up (stepJ E t.r.1)).r) hst]
      simpa using hne]
    refine kAutoB ?_
    refine RL.s0 (OpS.storeA (q := 7) kEv kEv (by exact rfl) (vOne R _) (Takes.there (Takes.here _ _)) (by exact Nat.le_refl 7)) ?_ (fun _ _ h => h.elim)
    rintro _ _ rfl
    refine kAutoB ?_
    refine XJ.retC rfl rfl (HasAt.pt (Takes.here _ _) atAll) rfl ((t.up (stepJ E t.r.1)).m R) ?_ ⟨t.up (stepJ E t.r.1), ?_, hI.okUp (stepJ_same E t.r.1).1 (stepJ_same E t.r.1).2.2.2, rfl, rfl⟩
    · rw [hsm]
      exact Gives.drop (Gives.drop (Gives.drop (Gives.refl _)))
    · rw [← hst]; rfl
  | none =>
  have hI1 := hI.stepI hst
  rw [bindJ_none hst]
  rw [show (errOf (t.up (stepJ E t.r.1)).r != 0) = false by rw [errOf_none (r := (t.up (stepJ E t.r.1)).r) hst]; rfl]
  refine kAutoB ?_
  refine CJ.gives (M' := cel b3 45 ((t.up (stepJ E t.r.1)).v R) :: rcel b2 50 _ :: cel b4 45 zeroE :: ((t.up (stepJ E t.r.1)).m R ++ F)) (by rw [hsm]; exact kGives) ?_
  refine CJ.env (L' := [(4, .pointer (some ⟨b4, 0, none⟩)), (3, .pointer (some ⟨b3, 0, none⟩)), (2, .pointer (some ⟨b2, 0, none⟩))]) (by exact kEsub) ?_
  obtain ⟨t1, ht1⟩ : ∃ t1 : RSt, t1 = t.up (stepJ E t.r.1) := ⟨_, rfl⟩
  have hvs : t.vs = t1.vs := by rw [ht1]; rfl
  have hr1 : stepJ E t.r.1 = t1.r := by rw [ht1]; rfl
  rw [← ht1] at hI1 ⊢
  rw [hvs] at hsz ⊢
  rw [hr1]
  clear hsm hst hI hr1 hvs ht1
  have hsz' : ∀ m ∈ [p], t1.vs.length + m.size ≤ 5000 := fun m hm => by have := hsk m hm; omega
  have hwc : ∀ e, idxJ E t1.r.1 p = .error e → e ≠ 0 := fun e h => idxJ_ne0 hwp h
  obtain ⟨bq0, o0, r0, e1, hbs0, hrl0, hr0⟩ := hN.at_ 0 (by simp)
  subst e1
  refine CJ.cut (σ := Nat) (fun _ => True) (fun b => [(9, .int .i32 (resP (idxJ E t1.r.1 p)).1), (10, .pointer (some ⟨b, 0, none⟩)), (4, .pointer (some ⟨b4, 0, none⟩)), (3, .pointer (some ⟨b3, 0, none⟩)), (2, .pointer (some ⟨b2, 0, none⟩))])
    (fun b => cel b 45 ((t1.up (t1.r.1, codeO (resP (idxJ E t1.r.1 p)).2)).v R) :: cel b3 45 (t1.v R) :: rcel b2 50 [.int .u8 44, .int .i64 n, .string s, .slice (some ⟨bq0, o0, none⟩) [p].length cp] :: cel b4 45 zeroE :: (t1.m R ++ F)) ?_ ?_
  · (refine CJ.draws mixed 11 [rcel b2 _ _, cel b3 _ _] (by exact kGives) (dom_of (by kernel_rfl)) ?_)
    ((first | refine kAjB 0 ?_ | refine kAjS 0 ?_); (first | refine kAjB 1 ?_ | refine kAjS 1 ?_))
    (apply AJ.pur (i := 2); exact rfl; exact rfl; exact rfl; exact rfl; exact rfl; exact rfl; exact rfl; exact rfl; exact rfl; exact OpP.indexAddrC 0 kEv rfl (show 0 < 1 by decide) (o0 + 0 * 4) rfl)
    (apply AJ.pur (i := 3); exact rfl; exact rfl; exact rfl; exact rfl; exact rfl; exact rfl; exact rfl; exact rfl; exact rfl; (apply OpP.loadA; exact kEv; exact HasAt.base hbs0; exact hrl0))
    ((first | refine kAjB 4 ?_ | refine kAjS 4 ?_))
    (refine AJ.loud2 (i := 5) (j := 9) (by kernel_rfl) (by kernel_rfl) rfl (by kernel_rfl) (by kernel_rfl) rfl rfl rfl rfl rfl rfl rfl rfl rfl rfl rfl rfl (OpS.callAll (fun w h mm sa => rindex_R F0 hI1 (by omega) (Z := F) (mm.tail.tail.tail) sa (by have := hsz' p (by simp); simp only [List.getElem_cons_zero]; omega) hr0 hBp) (by exact kEv) inferInstance (by exact kEvl) (by exact rfl)) (OpS.alloc (P := Tryz.prog) (vs := zeroE) rfl) ?_ ?_ ?_ ?_)
    · rintro _ _ ⟨N, ⟨rfl, rfl⟩, rfl⟩
      refine ⟨by exact kGives, ?_⟩
      ((first | refine kAjB 6 ?_ | refine kAjS 6 ?_); (first | refine kAjB 7 ?_ | refine kAjS 7 ?_); (first | refine kAjB 8 ?_ | refine kAjS 8 ?_))
      (refine AJ.loud1 (i := 9) (by kernel_rfl) (by kernel_rfl) rfl (by kernel_rfl) (by kernel_rfl) rfl rfl rfl rfl rfl rfl (OpS.alloc (P := Tryz.prog) (vs := zeroE) rfl) ?_ ?_)
      · rintro _ _ ⟨b, rfl, rfl⟩
        refine ⟨by exact kGives, ?_⟩
        ((first | refine kAjB 10 ?_ | refine kAjS 10 ?_))
        (refine AJ.tail (by kernel_rfl) (by kernel_rfl) rfl (by kernel_rfl) (by kernel_rfl) (by kernel_rfl) ?_)
        refine RL.s0 (OpS.storeA (q := 7) kEv kEv (by exact rfl) (vOne R (t1.up (t1.r.1, codeO (resP (idxJ E t1.r.1 p)).2))) (Takes.here _ _) (by exact Nat.le_refl 7)) ?_ (fun _ _ h => h.elim)
        rintro _ _ rfl
        refine kAutoB ?_
        exact XJ.meet b trivial (by exact kEsub) (by exact kGives)
      · rintro _ _ h; exact h.elim
    · rintro _ _ h; exact h.elim
    · rintro _ _ ⟨b, rfl, rfl⟩
      refine ⟨by exact kGives, ?_⟩
      (refine AJ.loud1 (i := 5) (by kernel_rfl) (by kernel_rfl) rfl (by kernel_rfl) (by kernel_rfl) rfl rfl rfl rfl rfl rfl (OpS.callAll (fun w h mm sa => rindex_R F0 hI1 (by omega) (Z := F) (mm.tail.tail.tail.tail) sa (by have := hsz' p (by simp); simp only [List.getElem_cons_zero]; omega) hr0 hBp) (by exact kEv) inferInstance (by exact kEvl) (by exact rfl)) ?_ ?_)
      · rintro _ _ ⟨N, ⟨rfl, rfl⟩, rfl⟩
        refine ⟨by exact kGives, ?_⟩
        ((first | refine kAjB 6 ?_ | refine kAjS 6 ?_); (first | refine kAjB 7 ?_ | refine kAjS 7 ?_); (first | refine kAjB 8 ?_ | refine kAjS 8 ?_))
        ((first | refine kAjB 10 ?_ | refine kAjS 10 ?_))
        (refine AJ.tail (by kernel_rfl) (by kernel_rfl) rfl (by kernel_rfl) (by kernel_rfl) (by kernel_rfl) ?_)
        refine RL.s0 (OpS.storeA (q := 7) kEv kEv (by exact rfl) (vOne R (t1.up (t1.r.1, codeO (resP (idxJ E t1.r.1 p)).2))) (Takes.here _ _) (by exact Nat.le_refl 7)) ?_ (fun _ _ h => h.elim)
        rintro _ _ rfl
        refine kAutoB ?_
        exact XJ.meet b trivial (by exact kEsub) (by exact kGives)
      · rintro _ _ h; exact h.elim
    · rintro _ _ h; exact h.elim
  rintro b10 -
  refine kAutoB ?_
  cases hix : idxJ E t1.r.1 p with
  | error e =>
    have hne := hwc e hix
    rw [storeJ_err F0 hwp hix]
    have hcd : codeO (resP (Except.error e : Except Int Int)).2 = some e := if_neg hne
    rw [hcd]
    rw [show (errOf (t1.up (t1.r.1, some e)).r != 0) = true by show (e != 0) = true; simpa using hne]
    refine kAutoB ?_
    refine RL.s0 (OpS.storeA (q := 7) kEv kEv (by exact rfl) (vOne R (t1.up (t1.r.1, some e))) (Takes.there (Takes.there (Takes.there (Takes.here _ _)))) (by exact Nat.le_refl 7)) ?_ (fun _ _ h => h.elim)
    rintro _ _ rfl
    refine kAutoB ?_
    exact XJ.retC rfl rfl (HasAt.pt (Takes.here _ _) atAll) rfl ((t1.up (t1.r.1, some e)).m R) (Gives.drop (Gives.drop (Gives.drop (Gives.drop (Gives.refl _))))) ⟨t1.up (t1.r.1, some e), rfl, hI1.okUp rfl rfl, rfl, rfl⟩
  | ok i =>
  obtain ⟨hi32, hi0⟩ := idxJ_range hI1 hix
  have hup : t1.up (t1.r.1, codeO (resP (Except.ok i : Except Int Int)).2) = t1 := by
    have h1 : codeO (resP (Except.ok i : Except Int Int)).2 = t1.r.2 := by rw [hI1.nn]; rfl
    rw [h1]
    rfl
  rw [hup, errOf_none hI1.nn]
  rw [storeJ_take F0 hwp hix]
  have hrc := rrecv_R F0 hI1 (by omega) hRn hwp i hi32 hi0
  refine kAutoB ?_
  (apply RL.callK; exact kEv; exact inferInstance; exact kEvl; rotate_left; exact hrc; rotate_right; exact Takes.there1 (Takes.there1 (Takes.there1 (Takes.there1 (Takes.app _ _)))); exact rfl)
  rintro _ _ ⟨q, he2, hq, rfl, rfl⟩
  refine kAutoB ?_
  refine RL.s0 (OpS.storeA (q := 7) kEv kEv (by exact rfl) (vOne R q) (Takes.appR _ (Takes.there (Takes.there (Takes.there (Takes.here _ _))))) (by exact Nat.le_refl 7)) ?_ (fun _ _ h => h.elim)
  rintro _ _ rfl
  refine kAutoB ?_
  exact XJ.retC rfl rfl (HasAt.pt (Takes.here _ _) atAll) rfl (q.m R) (Gives.drop (Gives.dropMid (B := [_, _, _]))) ⟨q, he2, hq, rfl, rfl⟩
end
end Go.Proofs.YtgmapenlgammfaaGreatDoor

/- The reference's statements: assignment. -/
namespace Go.Proofs.YtgmapenlgammfaaGreatDoor
open Go
section
variable {w0 : World} {R : RPar} {E : JE} {C : Ctx} {lens : List Nat} {S : Scope}
theorem rassign_spec (F0 : RefF w0 R E C lens) (n : Int) (s : ByteArray) (p c : Node) (hBp : isB p 2 = true) (hwp : WsP C S p) (hB0 : isB c 1 = true) (hw : WsE C S c) :
    ROK w0 R E C lens 92 (.mk 40 n s [p, c]) (execN E (.mk 40 n s [p, c])) S := by
  intro t ncs hI hR hsz
  have hRn := hR
  obtain ⟨B, cp, rfl, hcap, hN⟩ := hR.kids
  have hsk : ∀ m ∈ [p, c], m.size < (Node.mk 40 n s [p, c]).size := fun m hm => Node.size_kid (n := .mk 40 n s [p, c]) (by simpa [Node.kids] using hm)
  simp only [Node.kind, Node.num, Node.name, Node.kids] at hRn hcap hN
  rw [exec_assign]
  refine Spec.enter (args := [_, _]) Tryz.func92 rfl rfl rfl (fun F => ?_)
  refine kAutoB ?_
  (apply RL.boxR; exact kEv; exact rfl; intro b2)
  (apply RL.box; exact kEv; exact rfl; intro b3)
  (apply RL.alloc; exact rfl; exact rfl; intro b4)
  refine kAutoB ?_
  (apply RL.callIs; exact kEv; exact inferInstance; exact kEvl; exact (rstep_R w0 F0 hI); exact rfl)
  refine kAutoB ?_
  refine RL.s0 (OpS.storeA (q := 7) kEv kEv (by exact rfl) (vOne R _) (Takes.there (Takes.here _ _)) (by exact Nat.le_refl 7)) ?_ (fun _ _ h => h.elim)
  rintro _ _ rfl
  refine kAutoB ?_
  have hsm := up_m t R (stepJ_same E t.r.1).1 (stepJ_same E t.r.1).2.1
  cases hst : (stepJ E t.r.1).2 with
  | some e =>
    rw [bindJ_some hst]
    rw [show (errOf (t.up (stepJ E t.r.1)).r != 0) = true by
      have hne : e ≠ 0 := by
        rintro rfl
        exact ErrN.step E t.r.1 hst
      rw [errOf_some (r := (t.up (stepJ E t.r.1)).r) hst]
      simpa using hne]
    refine kAutoB ?_
    refine RL.s0 (OpS.storeA (q := 7) kEv kEv (by exact rfl) (vOne R _) (Takes.there (Takes.here _ _)) (by exact Nat.le_refl 7)) ?_ (fun _ _ h => h.elim)
    rintro _ _ rfl
    refine kAutoB ?_
    refine XJ.retC rfl rfl (HasAt.pt (Takes.here _ _) atAll) rfl ((t.up (stepJ E t.r.1)).m R) ?_ ⟨t.up (stepJ E t.r.1), ?_, hI.okUp (stepJ_same E t.r.1).1 (stepJ_same E t.r.1).2.2.2, rfl, rfl⟩
    · rw [hsm]
      exact Gives.drop (Gives.drop (Gives.drop (Gives.refl _)))
    · rw [← hst]; rfl
  | none =>
  have hI1 := hI.stepI hst
  rw [bindJ_none hst]
  rw [show (errOf (t.up (stepJ E t.r.1)).r != 0) = false by rw [errOf_none (r := (t.up (stepJ E t.r.1)).r) hst]; rfl]
  refine kAutoB ?_
  refine CJ.gives (M' := cel b3 45 ((t.up (stepJ E t.r.1)).v R) :: rcel b2 50 _ :: cel b4 45 zeroE :: ((t.up (stepJ E t.r.1)).m R ++ F)) (by rw [hsm]; exact kGives) ?_
  refine CJ.env (L' := [(4, .pointer (some ⟨b4, 0, none⟩)), (3, .pointer (some ⟨b3, 0, none⟩)), (2, .pointer (some ⟨b2, 0, none⟩))]) (by exact kEsub) ?_
  obtain ⟨t1, ht1⟩ : ∃ t1 : RSt, t1 = t.up (stepJ E t.r.1) := ⟨_, rfl⟩
  have hvs : t.vs = t1.vs := by rw [ht1]; rfl
  have hr1 : stepJ E t.r.1 = t1.r := by rw [ht1]; rfl
  rw [← ht1] at hI1 ⊢
  rw [hvs] at hsz ⊢
  rw [hr1]
  clear hsm hst hI hr1 hvs ht1
  have hsz' : ∀ m ∈ [p, c], t1.vs.length + m.size ≤ 5000 := fun m hm => by have := hsk m hm; omega
  have hwc : ∀ e, idxJ E t1.r.1 p = .error e → e ≠ 0 := fun e h => idxJ_ne0 hwp h
  obtain ⟨bq0, o0, r0, e1, hbs0, hrl0, hr0⟩ := hN.at_ 0 (by simp)
  subst e1
  refine CJ.cut (σ := Nat) (fun _ => True) (fun b => [(9, .int .i32 (resP (idxJ E t1.r.1 p)).1), (10, .pointer (some ⟨b, 0, none⟩)), (4, .pointer (some ⟨b4, 0, none⟩)), (3, .pointer (some ⟨b3, 0, none⟩)), (2, .pointer (some ⟨b2, 0, none⟩))])
    (fun b => cel b 45 ((t1.up (t1.r.1, codeO (resP (idxJ E t1.r.1 p)).2)).v R) :: cel b3 45 (t1.v R) :: rcel b2 50 [.int .u8 40, .int .i64 n, .string s, .slice (some ⟨bq0, o0, none⟩) [p, c].length cp] :: cel b4 45 zeroE :: (t1.m R ++ F)) ?_ ?_
  · (refine CJ.draws mixed 11 [rcel b2 _ _, cel b3 _ _] (by exact kGives) (dom_of (by kernel_rfl)) ?_)
    ((first | refine kAjB 0 ?_ | refine kAjS 0 ?_); (first | refine kAjB 1 ?_ | refine kAjS 1 ?_))
    (apply AJ.pur (i := 2); exact rfl; exact rfl; exact rfl; exact rfl; exact rfl; exact rfl; exact rfl; exact rfl; exact rfl; exact OpP.indexAddrC 0 kEv rfl (show 0 < 2 by decide) (o0 + 0 * 4) rfl)
    (apply AJ.pur (i := 3); exact rfl; exact rfl; exact rfl; exact rfl; exact rfl; exact rfl; exact rfl; exact rfl; exact rfl; (apply OpP.loadA; exact kEv; exact HasAt.base hbs0; exact hrl0))
    ((first | refine kAjB 4 ?_ | refine kAjS 4 ?_))
    (refine AJ.loud2 (i := 5) (j := 9) (by kernel_rfl) (by kernel_rfl) rfl (by kernel_rfl) (by kernel_rfl) rfl rfl rfl rfl rfl rfl rfl rfl rfl rfl rfl rfl (OpS.callAll (fun w h mm sa => rindex_R F0 hI1 (by omega) (Z := F) (mm.tail.tail.tail) sa (by have := hsz' p (by simp); simp only [List.getElem_cons_zero]; omega) hr0 hBp) (by exact kEv) inferInstance (by exact kEvl) (by exact rfl)) (OpS.alloc (P := Tryz.prog) (vs := zeroE) rfl) ?_ ?_ ?_ ?_)
    · rintro _ _ ⟨N, ⟨rfl, rfl⟩, rfl⟩
      refine ⟨by exact kGives, ?_⟩
      ((first | refine kAjB 6 ?_ | refine kAjS 6 ?_); (first | refine kAjB 7 ?_ | refine kAjS 7 ?_); (first | refine kAjB 8 ?_ | refine kAjS 8 ?_))
      (refine AJ.loud1 (i := 9) (by kernel_rfl) (by kernel_rfl) rfl (by kernel_rfl) (by kernel_rfl) rfl rfl rfl rfl rfl rfl (OpS.alloc (P := Tryz.prog) (vs := zeroE) rfl) ?_ ?_)
      · rintro _ _ ⟨b, rfl, rfl⟩
        refine ⟨by exact kGives, ?_⟩
        ((first | refine kAjB 10 ?_ | refine kAjS 10 ?_))
        (refine AJ.tail (by kernel_rfl) (by kernel_rfl) rfl (by kernel_rfl) (by kernel_rfl) (by kernel_rfl) ?_)
        refine RL.s0 (OpS.storeA (q := 7) kEv kEv (by exact rfl) (vOne R (t1.up (t1.r.1, codeO (resP (idxJ E t1.r.1 p)).2))) (Takes.here _ _) (by exact Nat.le_refl 7)) ?_ (fun _ _ h => h.elim)
        rintro _ _ rfl
        refine kAutoB ?_
        exact XJ.meet b trivial (by exact kEsub) (by exact kGives)
      · rintro _ _ h; exact h.elim
    · rintro _ _ h; exact h.elim
    · rintro _ _ ⟨b, rfl, rfl⟩
      refine ⟨by exact kGives, ?_⟩
      (refine AJ.loud1 (i := 5) (by kernel_rfl) (by kernel_rfl) rfl (by kernel_rfl) (by kernel_rfl) rfl rfl rfl rfl rfl rfl (OpS.callAll (fun w h mm sa => rindex_R F0 hI1 (by omega) (Z := F) (mm.tail.tail.tail.tail) sa (by have := hsz' p (by simp); simp only [List.getElem_cons_zero]; omega) hr0 hBp) (by exact kEv) inferInstance (by exact kEvl) (by exact rfl)) ?_ ?_)
      · rintro _ _ ⟨N, ⟨rfl, rfl⟩, rfl⟩
        refine ⟨by exact kGives, ?_⟩
        ((first | refine kAjB 6 ?_ | refine kAjS 6 ?_); (first | refine kAjB 7 ?_ | refine kAjS 7 ?_); (first | refine kAjB 8 ?_ | refine kAjS 8 ?_))
        ((first | refine kAjB 10 ?_ | refine kAjS 10 ?_))
        (refine AJ.tail (by kernel_rfl) (by kernel_rfl) rfl (by kernel_rfl) (by kernel_rfl) (by kernel_rfl) ?_)
        refine RL.s0 (OpS.storeA (q := 7) kEv kEv (by exact rfl) (vOne R (t1.up (t1.r.1, codeO (resP (idxJ E t1.r.1 p)).2))) (Takes.here _ _) (by exact Nat.le_refl 7)) ?_ (fun _ _ h => h.elim)
        rintro _ _ rfl
        refine kAutoB ?_
        exact XJ.meet b trivial (by exact kEsub) (by exact kGives)
      · rintro _ _ h; exact h.elim
    · rintro _ _ h; exact h.elim
  rintro b10 -
  refine kAutoB ?_
  cases hix : idxJ E t1.r.1 p with
  | error e =>
    have hne := hwc e hix
    rw [storeJ_err F0 hwp hix]
    have hcd : codeO (resP (Except.error e : Except Int Int)).2 = some e := if_neg hne
    rw [hcd]
    rw [show (errOf (t1.up (t1.r.1, some e)).r != 0) = true by show (e != 0) = true; simpa using hne]
    refine kAutoB ?_
    refine RL.s0 (OpS.storeA (q := 7) kEv kEv (by exact rfl) (vOne R (t1.up (t1.r.1, some e))) (Takes.there (Takes.there (Takes.there (Takes.here _ _)))) (by exact Nat.le_refl 7)) ?_ (fun _ _ h => h.elim)
    rintro _ _ rfl
    refine kAutoB ?_
    exact XJ.retC rfl rfl (HasAt.pt (Takes.here _ _) atAll) rfl ((t1.up (t1.r.1, some e)).m R) (Gives.drop (Gives.drop (Gives.drop (Gives.drop (Gives.refl _))))) ⟨t1.up (t1.r.1, some e), rfl, hI1.okUp rfl rfl, rfl, rfl⟩
  | ok i =>
  obtain ⟨hi32, hi0⟩ := idxJ_range hI1 hix
  have hup : t1.up (t1.r.1, codeO (resP (Except.ok i : Except Int Int)).2) = t1 := by
    have h1 : codeO (resP (Except.ok i : Except Int Int)).2 = t1.r.2 := by rw [hI1.nn]; rfl
    rw [h1]
    rfl
  rw [hup, errOf_none hI1.nn]
  rw [storeJ_put F0 hwp hix (evJ E t1.r.1 c) rfl]
  refine kAutoB ?_
  have hwe : ∀ e, evJ E t1.r.1 c = .error e → e ≠ 0 := fun e h => wsE_ne0 hw e h
  obtain ⟨bq1, o1, r1, e1, hbs1, hrl1, hr1⟩ := hN.at_ 1 (by simp)
  first | subst e1 | (simp only [Option.some.injEq, Addr.mk.injEq, and_true] at e1; obtain ⟨rfl, rfl⟩ := e1)
  (refine CJ.draws mixed 12 [rcel b2 _ _, cel b10 _ _] (by exact kGives) (dom_of (by kernel_rfl)) ?_)
  ((first | refine kAjB 0 ?_ | refine kAjS 0 ?_); (first | refine kAjB 1 ?_ | refine kAjS 1 ?_))
  (apply AJ.pur (i := 2); exact rfl; exact rfl; exact rfl; exact rfl; exact rfl; exact rfl; exact rfl; exact rfl; exact rfl; exact OpP.indexAddrC 1 kEv rfl (show 1 < 2 by decide) (o0 + 1 * 4) rfl)
  (apply AJ.pur (i := 3); exact rfl; exact rfl; exact rfl; exact rfl; exact rfl; exact rfl; exact rfl; exact rfl; exact rfl; (apply OpP.loadA; exact kEv; exact HasAt.base hbs1; exact hrl1))
  ((first | refine kAjB 4 ?_ | refine kAjS 4 ?_); (first | refine kAjB 5 ?_ | refine kAjS 5 ?_))
  (refine AJ.loud1 (i := 6) (by kernel_rfl) (by kernel_rfl) rfl (by kernel_rfl) (by kernel_rfl) rfl rfl rfl rfl rfl rfl (OpS.callAll (fun w h mm sa => rexpr_R F0 hI1 (by omega) (Z := F) (mm.tail.tail.tail.tail) sa (by have := hsz' c (by simp); simp only [List.getElem_cons_zero, List.getElem_cons_succ]; omega) hr1 hB0) (by exact kEv) inferInstance (by exact kEvl) (by exact rfl)) ?_ ?_)
  rotate_left
  · rintro _ _ h; exact h.elim
  rintro _ _ ⟨N, ⟨rfl, rfl⟩, rfl⟩
  refine ⟨by exact kGives, ?_⟩
  ((first | refine kAjB 7 ?_ | refine kAjS 7 ?_); (first | refine kAjB 8 ?_ | refine kAjS 8 ?_); (first | refine kAjB 9 ?_ | refine kAjS 9 ?_); (first | refine kAjB 10 ?_ | refine kAjS 10 ?_); (first | refine kAjB 11 ?_ | refine kAjS 11 ?_))
  (refine AJ.done (by kernel_rfl) (by kernel_rfl) rfl (by kernel_rfl) ?_)
  refine XJ.gives (M' := cel b10 45 (t1.v R) :: cel b3 45 (t1.v R) :: rcel b2 50 _ :: cel b4 45 zeroE :: (t1.m R ++ F)) (Gives.refl _) ?_
  simp only [List.getElem_cons_zero, List.getElem_cons_succ]
  cases hev : evJ E t1.r.1 c with
  | error e =>
    have hne := hwe e hev
    simp only [resP]
    refine kAutoB ?_
    rw [show (e != 0) = true by simpa using hne]
    refine kAutoB ?_
    (apply RL.store; exact kEv; exact kEv; exact kTake; exact rfl; exact rfl; exact rfl)
    refine kAutoB ?_
    refine RL.gives (M' := cel b10 45 ((t1.up (t1.r.1, some e)).v R) :: cel b4 45 zeroE :: (t1.m R ++ F)) (by exact kGives) ?_
    refine kAutoB ?_
    refine RL.s0 (OpS.storeA (q := 7) kEv kEv (by exact rfl) (vOne R (t1.up (t1.r.1, some e))) (Takes.there (Takes.here _ _)) (by exact Nat.le_refl 7)) ?_ (fun _ _ h => h.elim)
    rintro _ _ rfl
    refine kAutoB ?_
    exact XJ.retC rfl rfl (HasAt.pt (Takes.here _ _) atAll) rfl ((t1.up (t1.r.1, some e)).m R) (Gives.drop (Gives.drop (Gives.refl _))) ⟨t1.up (t1.r.1, some e), rfl, hI1.okUp rfl rfl, rfl, rfl⟩
  | ok x =>
    have hx32 := hI1.ok.ev hev
    simp only [resP]
    refine kAutoB ?_
    have hq := rstore_R F0 hI1 (by omega) hr0 hwp i x hx32 hi32 hi0
    (refine CJ.draws mixed 8 [rcel b2 _ _, cel b10 _ _] (by exact kGives) (dom_of (by kernel_rfl)) ?_)
    ((first | refine kAjB 0 ?_ | refine kAjS 0 ?_); (first | refine kAjB 1 ?_ | refine kAjS 1 ?_))
    (apply AJ.pur (i := 2); exact rfl; exact rfl; exact rfl; exact rfl; exact rfl; exact rfl; exact rfl; exact rfl; exact rfl; exact OpP.indexAddrC 0 kEv rfl (show 0 < 2 by decide) (o0 + 0 * 4) rfl)
    (apply AJ.pur (i := 3); exact rfl; exact rfl; exact rfl; exact rfl; exact rfl; exact rfl; exact rfl; exact rfl; exact rfl; (apply OpP.loadA; exact kEv; exact HasAt.base hbs0; exact hrl0))
    ((first | refine kAjB 4 ?_ | refine kAjS 4 ?_); (first | refine kAjB 5 ?_ | refine kAjS 5 ?_); (first | refine kAjB 6 ?_ | refine kAjS 6 ?_))
    (refine AJ.loud1 (i := 7) (by kernel_rfl) (by kernel_rfl) rfl (by kernel_rfl) (by kernel_rfl) rfl rfl rfl rfl rfl rfl (OpS.call (by exact kEv) inferInstance (by exact kEvl) (Takes.there1 (Takes.there1 (Takes.there1 (Takes.there1 (Takes.app _ _))))) hq) ?_ ?_)
    rotate_left
    · rintro _ _ ⟨_, h, _⟩; exact h.elim
    rintro _ _ ⟨N, ⟨q, he2, hq, rfl, rfl⟩, rfl⟩
    refine ⟨Gives.skipApp (by exact kGives), ?_⟩
    (refine AJ.tail (by kernel_rfl) (by kernel_rfl) rfl (by kernel_rfl) (by kernel_rfl) (by kernel_rfl) ?_)
    refine RL.s0 (OpS.storeA (q := 7) kEv kEv (by exact rfl) (vOne R q) (Takes.appR _ (Takes.there (Takes.there (Takes.there (Takes.here _ _))))) (by exact Nat.le_refl 7)) ?_ (fun _ _ h => h.elim)
    rintro _ _ rfl
    refine kAutoB ?_
    exact XJ.retC rfl rfl (HasAt.pt (Takes.here _ _) atAll) rfl (q.m R) (Gives.drop (Gives.dropMid (B := [_, _, _]))) ⟨q, he2, hq, rfl, rfl⟩
end
end Go.Proofs.YtgmapenlgammfaaGreatDoor

/- The reference's While statement. -/
namespace Go.Proofs.YtgmapenlgammfaaGreatDoor
open Go
section
variable {w0 : World} {R : RPar} {E : JE} {C : Ctx} {lens : List Nat} {S : Scope}
theorem RStOk.base {vs1 vs0 : Loc} {u : RSt} (h : RStOk R vs1 u) (e : vs1.map (·.1) = vs0.map (·.1)) : RStOk R vs0 u := ⟨h.us, h.nm.trans e, h.v32, h.vars⟩
def roundW (E : JE) (c : Node) (body : JS → JR) : Nat → JS → JR
  | 0 => fun s => (s, some 11)
  | k + 1 => fun s => bindJ (body s) (whileJ E c body k)
theorem whileJ_round (E : JE) (c : Node) (body : JS → JR) (k : Nat) (s : JS) : whileJ E c body k s = bindJ (stepJ E s) (ifJ E c (roundW E c body k) noJ) := by
  cases k <;> rfl
theorem rexpr_ok {t : RSt} {n : Node} {x : Int} (hev : evJ E t.r.1 n = .ok x) (F0 : RefF w0 R E C lens) (hI : RefI R E C lens S t) (hv : t.vs.length ≤ 10000) {w : World} {h : Frag} {Z : List HProp} (mm : star (t.m R ++ Z) h) (sa : Go.Proofs.YtgmapenlgammfaaGreatDoor.Sat w0 w h) {cs : List Value} (hs : n.size < 4611686018427387904) (hR : NodeR w0 n cs) (hB : isB n 1 = true) :
    Spec Tryz.prog w 38 #[.agg cs.toArray, .slice t.A (t.cells R).length t.c] [] (Is (.tuple #[.int .i32 x, .int .i64 0])) := by
  have := rexpr_R F0 hI hv mm sa hs hR hB
  rw [hev] at this
  exact this
theorem rexpr_err {t : RSt} {n : Node} {e : Int} (hev : evJ E t.r.1 n = .error e) (F0 : RefF w0 R E C lens) (hI : RefI R E C lens S t) (hv : t.vs.length ≤ 10000) {w : World} {h : Frag} {Z : List HProp} (mm : star (t.m R ++ Z) h) (sa : Go.Proofs.YtgmapenlgammfaaGreatDoor.Sat w0 w h) {cs : List Value} (hs : n.size < 4611686018427387904) (hR : NodeR w0 n cs) (hB : isB n 1 = true) :
    Spec Tryz.prog w 38 #[.agg cs.toArray, .slice t.A (t.cells R).length t.c] [] (Is (.tuple #[.int .i32 0, .int .i64 e])) := by
  have := rexpr_R F0 hI hv mm sa hs hR hB
  rw [hev] at this
  exact this
theorem rwhile_spec (F0 : RefF w0 R E C lens) (n : Int) (s : ByteArray) (c : Node) (hn1 : n ≤ 1000) (hB0 : isB c 1 = true) (hw : WsE C S c) (nb : Int) (sb : ByteArray) (l : List Node) (hok : ErrN (seqJ (l.map (execN E))))
    (hb : ROK w0 R E C lens 55 (.mk 47 nb sb l) (seqJ (l.map (execN E))) S) :
    ROK w0 R E C lens 138 (.mk 43 n s [c, .mk 47 nb sb l]) (whileJ E c (seqJ (l.map (execN E))) n.toNat) S := by
  intro t ncs hI hR hsz
  have hRn := hR
  obtain ⟨B, cp, rfl, hcap, hN⟩ := hR.kids
  have hsk : ∀ m ∈ [c, Node.mk 47 nb sb l], m.size < (Node.mk 43 n s [c, Node.mk 47 nb sb l]).size := fun m hm => Node.size_kid (n := .mk 43 n s [c, Node.mk 47 nb sb l]) (by simpa [Node.kids] using hm)
  simp only [Node.kind, Node.num, Node.name, Node.kids] at hRn hcap hN
  obtain ⟨W, hW⟩ : ∃ W, whileJ E c (seqJ (l.map (execN E))) n.toNat t.r.1 = W := ⟨_, rfl⟩
  rw [hW]
  refine Spec.enter (args := [_, _]) Tryz.func138 rfl rfl rfl (fun F => ?_)
  refine kAutoB ?_
  (apply RL.boxR; exact kEv; exact rfl; intro b2)
  (apply RL.box; exact kEv; exact rfl; intro b3)
  (apply RL.alloc; exact rfl; exact rfl; intro b4)
  refine kAutoB ?_
  refine CJ.loop (σ := Nat × RSt) (fun q => q.1 ≤ n.toNat ∧ RStOk R t.vs q.2 ∧ OKJ E lens q.2.r.1 ∧ ((q.2.r.2 = none ∧ W = whileJ E c (seqJ (l.map (execN E))) (n.toNat - q.1) q.2.r.1) ∨ ∃ e, e ≠ 0 ∧ q.2.r.2 = some e ∧ W = q.2.r))
    (fun q => [(5, .int .i64 (q.1 : Int)), (4, .pointer (some ⟨b4, 0, none⟩)), (3, .pointer (some ⟨b3, 0, none⟩)), (2, .pointer (some ⟨b2, 0, none⟩))])
    (fun q => cel b3 45 (q.2.v R) :: rcel b2 50 [.int .u8 43, .int .i64 n, .string s, .slice B [c, Node.mk 47 nb sb l].length cp] :: cel b4 45 zeroE :: (q.2.m R ++ F)) (fun q => n.toNat + 1 - q.1) (0, t)
    ⟨Nat.zero_le _, hI.rok, hI.ok, .inl ⟨hI.nn, hW.symm⟩⟩ (by exact kEsub) (by exact kGives) ?_
  rintro ⟨i, u⟩ ⟨hi, hu, ho, hcase⟩
  simp only at hi hu ho hcase
  refine kAutoB ?_
  rcases hcase with ⟨hx, he⟩ | ⟨e, hne, hx, he⟩
  case inr =>
    have h0 := errOf_some hx
    rw [show (errOf u.r == 0) = false by rw [h0]; simpa using hne]
    refine kAutoB ?_
    refine RL.s0 (OpS.storeA (q := 7) kEv kEv (by exact rfl) (vOne R u) (Takes.there (Takes.there (Takes.here _ _))) (by exact Nat.le_refl 7)) ?_ (fun _ _ h => h.elim)
    rintro _ _ rfl
    refine kAutoB ?_
    exact XJ.retC rfl rfl (HasAt.pt (Takes.here _ _) atAll) rfl (u.m R) (Gives.drop (Gives.drop (Gives.drop (Gives.refl _)))) ⟨u, he.symm, hu, rfl, rfl⟩
  have h0 := errOf_none hx
  have hIu := hI.next u hu hx ho
  rw [show (errOf u.r == 0) = true by rw [h0]; rfl]
  rw [whileJ_round] at he
  refine kAutoB ?_
  (apply RL.callIs; exact kEv; exact inferInstance; exact kEvl; exact (rstep_R w0 F0 hIu); exact rfl)
  refine kAutoB ?_
  refine RL.s0 (OpS.storeA (q := 7) kEv kEv (by exact rfl) (vOne R (u.up (stepJ E u.r.1))) (Takes.here _ _) (by exact Nat.le_refl 7)) ?_ (fun _ _ h => h.elim)
  rintro _ _ rfl
  refine kAutoB ?_
  have hsm := up_m u R (stepJ_same E u.r.1).1 (stepJ_same E u.r.1).2.1
  cases hst : (stepJ E u.r.1).2 with
  | some e =>
    rw [bindJ_some hst] at he
    rw [show (errOf (u.up (stepJ E u.r.1)).r != 0) = true by
      have hne : e ≠ 0 := by
        rintro rfl
        exact ErrN.step E u.r.1 hst
      rw [errOf_some (r := (u.up (stepJ E u.r.1)).r) hst]
      simpa using hne]
    refine kAutoB ?_
    refine RL.s0 (OpS.storeA (q := 7) kEv kEv (by exact rfl) (vOne R (u.up (stepJ E u.r.1))) (Takes.there (Takes.there (Takes.here _ _))) (by exact Nat.le_refl 7)) ?_ (fun _ _ h => h.elim)
    rintro _ _ rfl
    refine kAutoB ?_
    refine XJ.retC rfl rfl (HasAt.pt (Takes.here _ _) atAll) rfl ((u.up (stepJ E u.r.1)).m R) ?_ ⟨u.up (stepJ E u.r.1), ?_, (hIu.okUp (stepJ_same E u.r.1).1 (stepJ_same E u.r.1).2.2.2).base hu.nm, rfl, rfl⟩
    · rw [hsm]
      exact Gives.drop (Gives.drop (Gives.drop (Gives.refl _)))
    · rw [he, ← hst]; rfl
  | none =>
  have hI1 := hIu.stepI hst
  rw [bindJ_none hst] at he
  rw [show (errOf (u.up (stepJ E u.r.1)).r != 0) = false by rw [errOf_none (r := (u.up (stepJ E u.r.1)).r) hst]; rfl]
  refine kAutoB ?_
  refine CJ.gives (M' := cel b3 45 ((u.up (stepJ E u.r.1)).v R) :: rcel b2 50 _ :: cel b4 45 zeroE :: ((u.up (stepJ E u.r.1)).m R ++ F)) (by rw [hsm]; exact kGives) ?_
  obtain ⟨t1, ht1⟩ : ∃ t1 : RSt, t1 = u.up (stepJ E u.r.1) := ⟨_, rfl⟩
  have hvs : t1.vs.map (·.1) = t.vs.map (·.1) := by rw [ht1]; exact hu.nm
  have hvl : t1.vs.length = t.vs.length := by rw [ht1]; exact hu.vl
  have hr1 : stepJ E u.r.1 = t1.r := by rw [ht1]; rfl
  rw [← ht1] at hI1 ⊢
  rw [hr1] at he
  clear hsm hst hIu hr1 ht1
  refine CJ.env (L' := [(5, .int .i64 (i : Int)), (4, .pointer (some ⟨b4, 0, none⟩)), (3, .pointer (some ⟨b3, 0, none⟩)), (2, .pointer (some ⟨b2, 0, none⟩))]) (by exact kEsub) ?_
  have hsz' : ∀ m ∈ [c, Node.mk 47 nb sb l], t1.vs.length + m.size ≤ 5000 := fun m hm => by have := hsk m hm; omega
  have hwc : ∀ e, evJ E t1.r.1 c = .error e → e ≠ 0 := fun e h => wsE_ne0 hw e h
  unfold ifJ at he
  cases hev : evJ E t1.r.1 c with
  | error e =>
    have hne := hwc e hev
    rw [hev] at he
    obtain ⟨bq0, o0, r0, e1, hbs0, hrl0, hr0⟩ := hN.at_ 0 (by simp)
    first | subst e1 | (simp only [Option.some.injEq, Addr.mk.injEq, and_true] at e1; obtain ⟨rfl, rfl⟩ := e1)
    (refine CJ.draws mixed 12 [rcel b2 _ _, cel b3 _ _] (by exact kGives) (dom_of (by kernel_rfl)) ?_)
    ((first | refine kAjB 0 ?_ | refine kAjS 0 ?_); (first | refine kAjB 1 ?_ | refine kAjS 1 ?_))
    (apply AJ.pur (i := 2); exact rfl; exact rfl; exact rfl; exact rfl; exact rfl; exact rfl; exact rfl; exact rfl; exact rfl; exact OpP.indexAddrC 0 kEv rfl (show 0 < 2 by decide) (o0 + 0 * 4) rfl)
    (apply AJ.pur (i := 3); exact rfl; exact rfl; exact rfl; exact rfl; exact rfl; exact rfl; exact rfl; exact rfl; exact rfl; (apply OpP.loadA; exact kEv; exact HasAt.base hbs0; exact hrl0))
    ((first | refine kAjB 4 ?_ | refine kAjS 4 ?_); (first | refine kAjB 5 ?_ | refine kAjS 5 ?_))
    (refine AJ.loud1 (i := 6) (by kernel_rfl) (by kernel_rfl) rfl (by kernel_rfl) (by kernel_rfl) rfl rfl rfl rfl rfl rfl (OpS.callAll (fun w h mm sa => rexpr_err hev F0 hI1 (by omega) (Z := F) (mm.tail.tail.tail) sa (by have := hsz' c (by simp); omega) hr0 hB0) (by exact kEv) inferInstance (by exact kEvl) (by exact rfl)) ?_ ?_)
    rotate_left
    · rintro _ _ h; exact h.elim
    rintro _ _ ⟨N, ⟨rfl, rfl⟩, rfl⟩
    refine ⟨by exact kGives, ?_⟩
    ((first | refine kAjB 7 ?_ | refine kAjS 7 ?_); (first | refine kAjB 8 ?_ | refine kAjS 8 ?_); (first | refine kAjB 9 ?_ | refine kAjS 9 ?_); (first | refine kAjB 10 ?_ | refine kAjS 10 ?_); (first | refine kAjB 11 ?_ | refine kAjS 11 ?_))
    (refine AJ.done (by kernel_rfl) (by kernel_rfl) rfl (by kernel_rfl) ?_)
    refine XJ.gives (M' := cel b3 45 (t1.v R) :: rcel b2 50 _ :: cel b4 45 zeroE :: (t1.m R ++ F)) (Gives.refl _) ?_
    refine kAutoB ?_
    rw [show (e != 0) = true by simpa using hne]
    refine kAutoB ?_
    (apply RL.store; exact kEv; exact kEv; exact kTake; exact rfl; exact rfl; exact rfl)
    refine kAutoB ?_
    refine RL.gives (M' := cel b3 45 ((t1.up (t1.r.1, some e)).v R) :: cel b4 45 zeroE :: (t1.m R ++ F)) (by exact kGives) ?_
    refine RL.s0 (OpS.storeA (q := 7) kEv kEv (by exact rfl) (vOne R (t1.up (t1.r.1, some e))) (Takes.there (Takes.here _ _)) (by exact Nat.le_refl 7)) ?_ (fun _ _ h => h.elim)
    rintro _ _ rfl
    refine kAutoB ?_
    exact XJ.retC rfl rfl (HasAt.pt (Takes.here _ _) atAll) rfl ((t1.up (t1.r.1, some e)).m R) (Gives.drop (Gives.drop (Gives.refl _))) ⟨t1.up (t1.r.1, some e), he.symm, (hI1.okUp (r := (t1.r.1, some e)) rfl rfl).base hvs, rfl, rfl⟩
  | ok x =>
  rw [hev] at he
  obtain ⟨bq0, o0, r0, e1, hbs0, hrl0, hr0⟩ := hN.at_ 0 (by simp)
  first | subst e1 | (simp only [Option.some.injEq, Addr.mk.injEq, and_true] at e1; obtain ⟨rfl, rfl⟩ := e1)
  (refine CJ.draws mixed 12 [rcel b2 _ _, cel b3 _ _] (by exact kGives) (dom_of (by kernel_rfl)) ?_)
  ((first | refine kAjB 0 ?_ | refine kAjS 0 ?_); (first | refine kAjB 1 ?_ | refine kAjS 1 ?_))
  (apply AJ.pur (i := 2); exact rfl; exact rfl; exact rfl; exact rfl; exact rfl; exact rfl; exact rfl; exact rfl; exact rfl; exact OpP.indexAddrC 0 kEv rfl (show 0 < 2 by decide) (o0 + 0 * 4) rfl)
  (apply AJ.pur (i := 3); exact rfl; exact rfl; exact rfl; exact rfl; exact rfl; exact rfl; exact rfl; exact rfl; exact rfl; (apply OpP.loadA; exact kEv; exact HasAt.base hbs0; exact hrl0))
  ((first | refine kAjB 4 ?_ | refine kAjS 4 ?_); (first | refine kAjB 5 ?_ | refine kAjS 5 ?_))
  (refine AJ.loud1 (i := 6) (by kernel_rfl) (by kernel_rfl) rfl (by kernel_rfl) (by kernel_rfl) rfl rfl rfl rfl rfl rfl (OpS.callAll (fun w h mm sa => rexpr_ok hev F0 hI1 (by omega) (Z := F) (mm.tail.tail.tail) sa (by have := hsz' c (by simp); omega) hr0 hB0) (by exact kEv) inferInstance (by exact kEvl) (by exact rfl)) ?_ ?_)
  rotate_left
  · rintro _ _ h; exact h.elim
  rintro _ _ ⟨N, ⟨rfl, rfl⟩, rfl⟩
  refine ⟨by exact kGives, ?_⟩
  ((first | refine kAjB 7 ?_ | refine kAjS 7 ?_); (first | refine kAjB 8 ?_ | refine kAjS 8 ?_); (first | refine kAjB 9 ?_ | refine kAjS 9 ?_); (first | refine kAjB 10 ?_ | refine kAjS 10 ?_); (first | refine kAjB 11 ?_ | refine kAjS 11 ?_))
  (refine AJ.done (by kernel_rfl) (by kernel_rfl) rfl (by kernel_rfl) ?_)
  refine XJ.gives (M' := cel b3 45 (t1.v R) :: rcel b2 50 _ :: cel b4 45 zeroE :: (t1.m R ++ F)) (Gives.refl _) ?_
  refine kAutoB ?_
  cases hx0 : (x == 0)
  case true =>
    have hx : x = 0 := by simpa using hx0
    simp only [hx, if_true] at he
    refine kAutoB ?_
    refine RL.s0 (OpS.storeA (q := 7) kEv kEv (by exact rfl) (vOne R t1) (Takes.there (Takes.there (Takes.here _ _))) (by exact Nat.le_refl 7)) ?_ (fun _ _ h => h.elim)
    rintro _ _ rfl
    refine kAutoB ?_
    exact XJ.retC rfl rfl (HasAt.pt (Takes.here _ _) atAll) rfl (t1.m R) (Gives.drop (Gives.drop (Gives.drop (Gives.refl _)))) ⟨t1, by rw [he]; unfold noJ; rw [← hI1.nn], hI1.rok.base hvs, rfl, rfl⟩
  have hx : ¬ x = 0 := by simpa using hx0
  simp only [hx, if_false] at he
  refine kAutoB ?_
  cases hge : decide ((i : Int) ≥ n)
  case true =>
    have hge' := of_decide_eq_true hge
    have hk : n.toNat - i = 0 := by omega
    rw [hk] at he
    refine kAutoB ?_
    (apply RL.store; exact kEv; exact kEv; exact kTake; exact rfl; exact rfl; exact rfl)
    refine kAutoB ?_
    refine RL.gives (M' := cel b3 45 ((t1.up (t1.r.1, some 11)).v R) :: cel b4 45 zeroE :: (t1.m R ++ F)) (by exact kGives) ?_
    refine RL.s0 (OpS.storeA (q := 7) kEv kEv (by exact rfl) (vOne R (t1.up (t1.r.1, some 11))) (Takes.there (Takes.here _ _)) (by exact Nat.le_refl 7)) ?_ (fun _ _ h => h.elim)
    rintro _ _ rfl
    refine kAutoB ?_
    exact XJ.retC rfl rfl (HasAt.pt (Takes.here _ _) atAll) rfl ((t1.up (t1.r.1, some 11)).m R) (Gives.drop (Gives.drop (Gives.refl _))) ⟨t1.up (t1.r.1, some 11), he.symm, (hI1.okUp (r := (t1.r.1, some 11)) rfl rfl).base hvs, rfl, rfl⟩
  have hge' := of_decide_eq_false hge
  obtain ⟨k, hk⟩ : ∃ k, n.toNat - i = k + 1 := ⟨n.toNat - i - 1, by omega⟩
  rw [hk] at he
  refine kAutoB ?_
  obtain ⟨bq, o, r, e1, hbs, hrl, hr⟩ := hN.at_ 1 (by simp)
  simp only [Option.some.injEq, Addr.mk.injEq, and_true] at e1
  obtain ⟨rfl, rfl⟩ := e1
  have hq := hb t1 r hI1 hr (hsz' _ (by simp))
  (refine CJ.draws mixed 6 [rcel b2 _ _, cel b3 _ _] (by exact kGives) (dom_of (by kernel_rfl)) ?_)
  ((first | refine kAjB 0 ?_ | refine kAjS 0 ?_); (first | refine kAjB 1 ?_ | refine kAjS 1 ?_))
  (apply AJ.pur (i := 2); exact rfl; exact rfl; exact rfl; exact rfl; exact rfl; exact rfl; exact rfl; exact rfl; exact rfl; exact OpP.indexAddrC 1 kEv rfl (show 1 < 2 by decide) (o0 + 1 * 4) rfl)
  (apply AJ.pur (i := 3); exact rfl; exact rfl; exact rfl; exact rfl; exact rfl; exact rfl; exact rfl; exact rfl; exact rfl; (apply OpP.loadA; exact kEv; exact HasAt.base hbs; exact hrl))
  ((first | refine kAjB 4 ?_ | refine kAjS 4 ?_))
  (refine AJ.loud1 (i := 5) (by kernel_rfl) (by kernel_rfl) rfl (by kernel_rfl) (by kernel_rfl) rfl rfl rfl rfl rfl rfl (OpS.call (by exact kEv) inferInstance (by exact kEvl) (Takes.there1 (Takes.there1 (Takes.there1 (Takes.app _ _)))) hq) ?_ ?_)
  rotate_left
  · rintro _ _ ⟨_, h, _⟩; exact h.elim
  rintro _ _ ⟨N, ⟨q, he2, hq, rfl, rfl⟩, rfl⟩
  refine ⟨Gives.skipApp (by exact kGives), ?_⟩
  (refine AJ.tail (by kernel_rfl) (by kernel_rfl) rfl (by kernel_rfl) (by kernel_rfl) (by kernel_rfl) ?_)
  refine RL.gives (M' := cel b3 45 (t1.v R) :: rcel b2 50 _ :: cel b4 45 zeroE :: (q.m R ++ F)) (Gives.cons (Takes.appR _ (Takes.here _ _)) (Gives.cons (Takes.appR _ (Takes.here _ _)) (Gives.cons (Takes.appR _ (Takes.here _ _)) (Gives.refl _)))) ?_
  refine RL.s0 (OpS.storeA (q := 7) kEv kEv (by exact rfl) (vOne R q) (Takes.here _ _) (by exact Nat.le_refl 7)) ?_ (fun _ _ h => h.elim)
  rintro _ _ rfl
  refine kAutoB ?_
  rw [i64_succ i (by omega)]
  refine XJ.round (i + 1, q) ⟨by simp only; omega, hq.base hvs, ?_, ?_⟩ (by simp only; omega) (by exact kEsub) (by exact kGives)
  · simp only [he2]
    exact seq_ok _ F0.i32 hI1.ok
  · simp only
    change W = bindJ (seqJ (l.map (execN E)) t1.r.1) (whileJ E c (seqJ (l.map (execN E))) k) at he
    rw [← he2] at he
    have hnk : n.toNat - (i + 1) = k := by omega
    rw [hnk]
    cases hz : q.r.2 with
    | none => rw [bindJ_none hz] at he; exact .inl ⟨rfl, he⟩
    | some e =>
      rw [bindJ_some hz] at he
      refine .inr ⟨e, ?_, rfl, by rw [he, ← hz]⟩
      rintro rfl
      exact hok t1.r.1 (he2 ▸ hz)
end
end Go.Proofs.YtgmapenlgammfaaGreatDoor
