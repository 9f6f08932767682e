/- The law's example holds. -/
import Derived.Test.YtgmapenlgammfaaGreatDoorJob
import Derived.Test.YtgmapenlgammfaaGreatDoorSample
import Derived.Test.YtgmapenlgammfaaGreatDoorSame
set_option linter.all false
namespace Go.Proofs.YtgmapenlgammfaaGreatDoor
open Go
section
attribute [local semireducible] Takes Gives Ev XJ CJ RL Spec
theorem star.skip {A B : List HProp} {h : Frag} (s : star (A ++ B) h) : star B h := by
  obtain ⟨h1, h2, l1, l2, _, _, m⟩ := s.split
  exact m.mono l2
theorem OpS.callAll {P : Program} {w0 : World} {L : Env} {M : List HProp} {d : Option Tmp} {T : TypeId} {p : String} {af : Array Edge} {g : Option (Nat × Bool)} {f : Operand} {k : FuncId} {args : Array Value} {first cap : List Value} {xs : List Operand} {vs : List Value} {ts : Array TypeId} {K : Value → List HProp → Prop}
    (hs : ∀ w h, star M h → Go.Proofs.YtgmapenlgammfaaGreatDoor.Sat w0 w h → Spec P w k args [] (Ret K noP)) (hf : Ev L f (.func (.func k) first.toArray cap.toArray)) (c : CallT P k) (hx : EvL L xs vs) (ha : args = (first ++ vs ++ cap).toArray) :
    OpS P w0 L M ⟨d, .call { callee := .value f, args := xs.toArray, argTypes := ts }, T, p, af, g⟩ (fun v N => ∃ N', K v N' ∧ N = N' ++ M) noP :=
  (OpS.callO (Spec.rebaseR hs) hf c hx ha (Takes.done M)).mono (fun v N ⟨N', ⟨N'', h1, h2⟩, h3⟩ => ⟨N'', h1, by rw [h3, h2, List.append_nil]⟩) (fun _ _ ⟨_, ⟨_, h, _⟩, _⟩ => h)
theorem RL.factS {P : Program} {w0 : World} {n : Nat} {ops : Array Oper} {Q : Exit → Act → World → Prop} {l : List Oper} {L : Env} {M : List HProp} {p : Prop} (f : ∀ w h, star M h → Go.Proofs.YtgmapenlgammfaaGreatDoor.Sat w0 w h → p) (k : p → RL P w0 n ops Q l L M) : RL P w0 n ops Q l L M :=
  fun a w h s m t => k (f w h m t) a w h s m t
theorem CJ.factS {P : Program} {w0 : World} {n : Nat} {c : Code} {Q : Exit → Act → World → Prop} {L : Env} {M : List HProp} {p : Prop} (f : ∀ w h, star M h → Go.Proofs.YtgmapenlgammfaaGreatDoor.Sat w0 w h → p) (k : p → CJ P w0 n c Q L M) : CJ P w0 n c Q L M :=
  fun a w h s m t => k (f w h m t) a w h s m t
theorem XJ.factS {w0 : World} {n : Nat} {e : Exit} {Q : Exit → Act → World → Prop} {L : Env} {M : List HProp} {p : Prop} (f : ∀ w h, star M h → Go.Proofs.YtgmapenlgammfaaGreatDoor.Sat w0 w h → p) (k : p → XJ w0 n e Q L M) : XJ w0 n e Q L M :=
  fun a w h s m t => k (f w h m t) a w h s m t
theorem RL.callAll {P : Program} {w0 : World} {n : Nat} {ops : Array Oper} {Q : Exit → Act → World → Prop} {l : List Oper} {L : Env} {M : List HProp} {d : Nat} {T : TypeId} {p : String} {af : Array Edge} {f : Operand} {k : FuncId} {args : Array Value} {first cap : List Value} {xs : List Operand} {vs : List Value} {ts : Array TypeId} {K : Value → List HProp → Prop}
    (hf : Ev L f (.func (.func k) first.toArray cap.toArray)) (c : CallT P k) (hx : EvL L xs vs) (ha : args = (first ++ vs ++ cap).toArray) (hs : ∀ w h, star M h → Go.Proofs.YtgmapenlgammfaaGreatDoor.Sat w0 w h → Spec P w k args [] (Ret K noP)) (hd : Nat.blt d n = true)
    (kk : ∀ v N, K v N → RL P w0 n ops Q l ((d, v) :: L) (N ++ M)) : RL P w0 n ops Q (⟨some d, .call { callee := .value f, args := xs.toArray, argTypes := ts }, T, p, af, none⟩ :: l) L M :=
  RL.s (OpS.callAll hs hf c hx ha) hd (by rintro _ _ ⟨N', h, rfl⟩; exact kk _ _ h) (fun _ _ h => h.elim)
end
theorem MatR.slice {w : World} {v : Value} {m : List (List Int)} (h : MatR w v m) : v.oneCell' = true := by
  obtain ⟨A, c, us, rfl, _⟩ := h
  rfl
theorem CubR.slice {w : World} {v : Value} {m : List (List (List Int))} (h : CubR w v m) : v.oneCell' = true := by
  obtain ⟨A, c, us, rfl, _⟩ := h
  rfl
section
attribute [local semireducible] HasAt Base
theorem HasAt.of {w0 : World} {M : List HProp} {b o : Nat} {vs : List Value} (f : ∀ w h, star M h → Go.Proofs.YtgmapenlgammfaaGreatDoor.Sat w0 w h → Base w b o vs) : HasAt w0 M b o vs := fun w h m s j v hv => f w h m s j v hv
end
section
attribute [local semireducible] Gives
theorem Gives.rot {X A F : List HProp} : Gives (X ++ (A ++ F)) (A ++ (X ++ F)) := fun h s => by
  refine star.perm ?_ s
  rw [← List.append_assoc, ← List.append_assoc]
  exact List.Perm.append_right F List.perm_append_comm
theorem Gives.dropMid {A B X : List HProp} : Gives (A ++ (B ++ X)) (A ++ X) := fun h s => by
  obtain ⟨h1, h2, l1, l2, d, x, y⟩ := s.split
  exact star.join l1 l2 d x y.skip
end
/-- A result's cells. -/
theorem ResR.cells {w : World} {cs : List Value} {r : JobRes} (h : ResR w cs r) : ∃ u v A c, cs = [u, v, .slice A r.out.length c, .int .i64 r.read, .int .i64 r.steps, .int .i64 r.err] ∧ u.oneCell' = true ∧ v.oneCell' = true := by
  obtain ⟨u, v, o, rfl, h1, h2, A, c, rfl, _⟩ := h
  exact ⟨u, v, A, c, rfl, h1.slice, h2.slice⟩
def memS : Mem := zeroMem sampleP
theorem sample_valid : validB sampleP = true := by kernel_rfl
theorem sample_fit : Fit sampleP := ⟨by decide, by decide, by
  intro t ht
  simp only [sampleP, List.mem_singleton] at ht
  subst ht
  decide⟩
theorem sample_job11 : jobAll sampleP 0 memS [] 11 = ⟨⟨[[[0, 0, 1]]], []⟩, [(1, 3)], 0, 11, 0⟩ := by kernel_rfl
theorem sample_job10 : (jobAll sampleP 0 memS [] 10).err = 13 ∧ (jobAll sampleP 0 memS [] 10).steps = 10 ∧ (jobAll sampleP 0 memS [] 10).out = [] := ⟨by kernel_rfl, by kernel_rfl, by kernel_rfl⟩
theorem mem32S : Mem32 memS := by
  constructor
  · intro q hq l hl x hx
    have : x = 0 := by
      simp only [memS, zeroMem, sampleP, List.map_cons, List.map_nil, List.mem_singleton] at hq
      subst hq
      simp only [zerosL, List.map_cons, List.map_nil, List.mem_singleton] at hl
      subst hl
      exact (List.mem_replicate.1 hx).2
    subst this
    exact .zero
  · intro l hl
    simp [memS, zeroMem, sampleP, zerosL] at hl
/-- What a job of the example leaves. -/
def ResF (N : List HProp) (cs : List Value) (fuel : Int) : Prop := ∀ b w h F, star (N ++ F) h → Go.Proofs.YtgmapenlgammfaaGreatDoor.Sat b w h → ResR w cs (jobAll sampleP 0 memS [] fuel)
def MemF (N : List HProp) (cs : List Value) : Prop := ∀ b w h F, star (N ++ F) h → Go.Proofs.YtgmapenlgammfaaGreatDoor.Sat b w h → MemR w cs memS
theorem awake_spec (w0 : World) (hT : Tab w0) : Spec Tryz.prog w0 13 #[] [] (Is (.bool true)) := by
  refine Spec.enter (args := []) Tryz.func13 rfl rfl rfl (fun F => ?_)
  refine kAutoB ?_
  (apply RL.callK; exact kEv; exact inferInstance; exact kEvl; exact (Takes.nil _); exact (sample_spec w0); exact rfl)
  rintro _ N1 ⟨cs, rfl, hcs⟩
  refine kAutoB ?_
  (apply RL.callAll; exact kEv; exact inferInstance; exact kEvl; exact rfl; exact (fun w h mm sa => New_spec w (hT.sat sa) sampleP cs sample_fit (hcs _ w h _ mm sa)); exact rfl)
  rintro vN N2 hN2
  obtain ⟨mcs, hmc, rfl, hmF⟩ : ∃ mcs : List Value, (∃ a b, mcs = [a, b]) ∧ vN = Value.tuple #[.agg mcs.toArray, .int .i64 0] ∧ MemF N2 mcs := by
    rcases hN2 with ⟨h, _⟩ | ⟨_, vA, vS, vs, uss, us, rfl, hL, hul, rfl⟩
    · rw [sample_valid] at h; cases h
    · exact ⟨[vA, vS], ⟨_, _, rfl⟩, rfl, fun b w h F mm sa => ⟨vA, vS, rfl, cubA_R hL (Takes.sub (Takes.app _ _)) mm sa, matM_R hul (Takes.sub (Takes.appR _ (by have := Takes.app (matM vS us memS.shared) []; rwa [List.append_nil] at this))) mm sa⟩⟩
  obtain ⟨ma, mb, rfl⟩ := hmc
  refine RL.factS (p := ma.oneCell' = true ∧ mb.oneCell' = true) (fun w h mm sa => by
    obtain ⟨u, v, e, h1, h2⟩ := hmF _ w h _ mm sa
    simp only [List.cons.injEq, and_true] at e
    obtain ⟨rfl, rfl⟩ := e
    exact ⟨h1.slice, h2.slice⟩) ?_
  rintro ⟨hma, hmb⟩
  refine kAutoB ?_
  (apply RL.alloc; exact rfl; exact rfl; intro b1)
  (apply RL.storeA; exact kEv; exact kEv; exact kTake; exact rfl; exact (by simp [hma, hmb]); exact rfl)
  refine kAutoB ?_
  refine CJ.gives (M' := cel b1 29 [ma, mb] :: (N2 ++ F)) (Gives.cons (Takes.here _ _) Gives.dropMid) ?_
  refine CJ.cut (σ := Nat × Value × Value × Option Addr × Nat × List HProp) (fun t => ResF t.2.2.2.2.2 [t.2.1, t.2.2.1, .slice t.2.2.2.1 (jobAll sampleP 0 memS [] 11).out.length t.2.2.2.2.1, .int .i64 (jobAll sampleP 0 memS [] 11).read, .int .i64 (jobAll sampleP 0 memS [] 11).steps, .int .i64 (jobAll sampleP 0 memS [] 11).err] 11 ∧ t.2.1.oneCell' = true ∧ t.2.2.1.oneCell' = true)
    (fun t => [(3, .pointer (some ⟨t.1, 0, none⟩)), (2, .int .i64 0), (1, .pointer (some ⟨b1, 0, none⟩))])
    (fun t => cel t.1 37 [t.2.1, t.2.2.1, .slice t.2.2.2.1 (jobAll sampleP 0 memS [] 11).out.length t.2.2.2.2.1, .int .i64 (jobAll sampleP 0 memS [] 11).read, .int .i64 (jobAll sampleP 0 memS [] 11).steps, .int .i64 (jobAll sampleP 0 memS [] 11).err] :: (t.2.2.2.2.2 ++ (cel b1 29 [ma, mb] :: (N2 ++ F)))) ?_ ?_
  · (refine CJ.draws mixed 4 [cel b1 _ _] (by exact kGives) (dom_of (by kernel_rfl)) ?_)
    ((first | refine kAjB 1 ?_ | refine kAjS 1 ?_))
    (refine AJ.loud2 (i := 0) (j := 3) (by kernel_rfl) (by kernel_rfl) rfl (by kernel_rfl) (by kernel_rfl) rfl rfl rfl rfl rfl rfl rfl rfl rfl rfl rfl rfl (OpS.callO (sample_spec w0) (by exact kEv) inferInstance (by exact kEvl) (by exact rfl) (Takes.nil _)) (OpS.alloc (P := Tryz.prog) (vs := [.slice none 0 0, .slice none 0 0, .slice none 0 0, .int .i64 0, .int .i64 0, .int .i64 0]) rfl) ?_ ?_ ?_ ?_)
    · rintro _ _ ⟨N3, ⟨cs3, rfl, hcs3⟩, rfl⟩
      refine ⟨by (repeat (first | exact Gives.nil _ | (apply Gives.cons; (focus (exact Takes.here _ _))) | apply Gives.drop | apply Gives.skipApp)), ?_⟩
      (refine AJ.loud2 (i := 2) (j := 3) (by kernel_rfl) (by kernel_rfl) rfl (by kernel_rfl) (by kernel_rfl) rfl rfl rfl rfl rfl rfl rfl rfl rfl rfl rfl rfl (OpS.callAll (fun w h mm sa => Job_spec w (hT.sat sa) sampleP cs3 sample_fit (hcs3 _ w h _ (mm) sa) 0 memS [ma, mb] (hmF _ w h _ (mm.skip.tail) sa) mem32S (.slice none 0 0) [] ⟨none, 0, rfl, Nat.le_refl _, fun i r h => by simp at h⟩ (by simp) (by simp) 11 (by decide)) (by exact kEv) inferInstance (by exact kEvl) (by exact rfl)) (OpS.alloc (P := Tryz.prog) (vs := [.slice none 0 0, .slice none 0 0, .slice none 0 0, .int .i64 0, .int .i64 0, .int .i64 0]) rfl) ?_ ?_ ?_ ?_)
      · rintro _ _ ⟨NJ, ⟨rcs, rfl, hrc⟩, rfl⟩
        refine ⟨by (repeat (first | exact Gives.nil _ | (apply Gives.cons; (focus (exact Takes.here _ _))) | apply Gives.drop | apply Gives.skipApp)), ?_⟩
        (refine AJ.loud1 (i := 3) (by kernel_rfl) (by kernel_rfl) rfl (by kernel_rfl) (by kernel_rfl) rfl rfl rfl rfl rfl rfl (OpS.alloc (P := Tryz.prog) (vs := [.slice none 0 0, .slice none 0 0, .slice none 0 0, .int .i64 0, .int .i64 0, .int .i64 0]) rfl) ?_ ?_)
        · rintro _ _ ⟨b3, rfl, rfl⟩
          refine ⟨by (repeat (first | exact Gives.nil _ | (apply Gives.cons; (focus (exact Takes.here _ _))) | apply Gives.drop | apply Gives.skipApp)), ?_⟩
          (refine AJ.tail (by kernel_rfl) (by kernel_rfl) rfl (by kernel_rfl) (by kernel_rfl) (by kernel_rfl) ?_)
          refine RL.factS (p := ∃ u v A c, rcs = [u, v, .slice A (jobAll sampleP 0 memS [] 11).out.length c, .int .i64 (jobAll sampleP 0 memS [] 11).read, .int .i64 (jobAll sampleP 0 memS [] 11).steps, .int .i64 (jobAll sampleP 0 memS [] 11).err] ∧ u.oneCell' = true ∧ v.oneCell' = true) (fun w h mm sa => (hrc _ w h _ (mm.tail) sa).cells) ?_
          rintro ⟨u1, u2, A1, c1, rfl, ho1, ho2⟩
          (apply RL.storeA; exact kEv; exact kEv; exact Takes.here _ _; exact rfl; exact (by simp only [List.all_cons, List.all_nil, ho1, ho2]; rfl); exact rfl)
          refine kAutoB ?_
          exact XJ.meet (b3, u1, u2, A1, c1, NJ) ⟨hrc, ho1, ho2⟩ (by exact kEsub) (Gives.cons (Takes.here _ _) Gives.dropMid)
        · rintro _ _ h; exact h.elim
      · rintro _ _ h; exact h.elim
      · rintro _ _ ⟨b3, rfl, rfl⟩
        refine ⟨by (repeat (first | exact Gives.nil _ | (apply Gives.cons; (focus (exact Takes.here _ _))) | apply Gives.drop | apply Gives.skipApp)), ?_⟩
        (refine AJ.loud1 (i := 2) (by kernel_rfl) (by kernel_rfl) rfl (by kernel_rfl) (by kernel_rfl) rfl rfl rfl rfl rfl rfl (OpS.callAll (fun w h mm sa => Job_spec w (hT.sat sa) sampleP cs3 sample_fit (hcs3 _ w h _ (mm.tail) sa) 0 memS [ma, mb] (hmF _ w h _ (mm.tail.skip.tail) sa) mem32S (.slice none 0 0) [] ⟨none, 0, rfl, Nat.le_refl _, fun i r h => by simp at h⟩ (by simp) (by simp) 11 (by decide)) (by exact kEv) inferInstance (by exact kEvl) (by exact rfl)) ?_ ?_)
        · rintro _ _ ⟨NJ, ⟨rcs, rfl, hrc⟩, rfl⟩
          refine ⟨by (repeat (first | exact Gives.nil _ | (apply Gives.cons; (focus (exact Takes.here _ _))) | apply Gives.drop | apply Gives.skipApp)), ?_⟩
          (refine AJ.tail (by kernel_rfl) (by kernel_rfl) rfl (by kernel_rfl) (by kernel_rfl) (by kernel_rfl) ?_)
          refine RL.factS (p := ∃ u v A c, rcs = [u, v, .slice A (jobAll sampleP 0 memS [] 11).out.length c, .int .i64 (jobAll sampleP 0 memS [] 11).read, .int .i64 (jobAll sampleP 0 memS [] 11).steps, .int .i64 (jobAll sampleP 0 memS [] 11).err] ∧ u.oneCell' = true ∧ v.oneCell' = true) (fun w h mm sa => (hrc _ w h _ (mm) sa).cells) ?_
          rintro ⟨u1, u2, A1, c1, rfl, ho1, ho2⟩
          (apply RL.storeA; exact kEv; exact kEv; exact Takes.appR _ (Takes.here _ _); exact rfl; exact (by simp only [List.all_cons, List.all_nil, ho1, ho2]; rfl); exact rfl)
          refine kAutoB ?_
          exact XJ.meet (b3, u1, u2, A1, c1, NJ) ⟨hrc, ho1, ho2⟩ (by exact kEsub) (Gives.cons (Takes.here _ _) Gives.dropMid)
        · rintro _ _ h; exact h.elim
      · rintro _ _ h; exact h.elim
    · rintro _ _ ⟨_, h, _⟩; exact h.elim
    · rintro _ _ ⟨b3, rfl, rfl⟩
      refine ⟨by (repeat (first | exact Gives.nil _ | (apply Gives.cons; (focus (exact Takes.here _ _))) | apply Gives.drop | apply Gives.skipApp)), ?_⟩
      (refine AJ.loud1 (i := 0) (by kernel_rfl) (by kernel_rfl) rfl (by kernel_rfl) (by kernel_rfl) rfl rfl rfl rfl rfl rfl (OpS.callO (sample_spec w0) (by exact kEv) inferInstance (by exact kEvl) (by exact rfl) (Takes.nil _)) ?_ ?_)
      · rintro _ _ ⟨N3, ⟨cs3, rfl, hcs3⟩, rfl⟩
        refine ⟨by (repeat (first | exact Gives.nil _ | (apply Gives.cons; (focus (exact Takes.here _ _))) | apply Gives.drop | apply Gives.skipApp)), ?_⟩
        (refine AJ.loud1 (i := 2) (by kernel_rfl) (by kernel_rfl) rfl (by kernel_rfl) (by kernel_rfl) rfl rfl rfl rfl rfl rfl (OpS.callAll (fun w h mm sa => Job_spec w (hT.sat sa) sampleP cs3 sample_fit (hcs3 _ w h _ (mm) sa) 0 memS [ma, mb] (hmF _ w h _ (mm.skip.tail.tail) sa) mem32S (.slice none 0 0) [] ⟨none, 0, rfl, Nat.le_refl _, fun i r h => by simp at h⟩ (by simp) (by simp) 11 (by decide)) (by exact kEv) inferInstance (by exact kEvl) (by exact rfl)) ?_ ?_)
        · rintro _ _ ⟨NJ, ⟨rcs, rfl, hrc⟩, rfl⟩
          refine ⟨by (repeat (first | exact Gives.nil _ | (apply Gives.cons; (focus (exact Takes.here _ _))) | apply Gives.drop | apply Gives.skipApp)), ?_⟩
          (refine AJ.tail (by kernel_rfl) (by kernel_rfl) rfl (by kernel_rfl) (by kernel_rfl) (by kernel_rfl) ?_)
          refine RL.factS (p := ∃ u v A c, rcs = [u, v, .slice A (jobAll sampleP 0 memS [] 11).out.length c, .int .i64 (jobAll sampleP 0 memS [] 11).read, .int .i64 (jobAll sampleP 0 memS [] 11).steps, .int .i64 (jobAll sampleP 0 memS [] 11).err] ∧ u.oneCell' = true ∧ v.oneCell' = true) (fun w h mm sa => (hrc _ w h _ (mm) sa).cells) ?_
          rintro ⟨u1, u2, A1, c1, rfl, ho1, ho2⟩
          (apply RL.storeA; exact kEv; exact kEv; exact Takes.appR _ (Takes.appR _ (Takes.here _ _)); exact rfl; exact (by simp only [List.all_cons, List.all_nil, ho1, ho2]; rfl); exact rfl)
          refine kAutoB ?_
          exact XJ.meet (b3, u1, u2, A1, c1, NJ) ⟨hrc, ho1, ho2⟩ (by exact kEsub) (Gives.cons (Takes.here _ _) Gives.dropMid)
        · rintro _ _ h; exact h.elim
      · rintro _ _ ⟨_, h, _⟩; exact h.elim
    · rintro _ _ h; exact h.elim
  rintro ⟨bR, v1, v2, A9, c9, NJ1⟩ ⟨hJ1, ho1, ho2⟩
  simp only at hJ1 ho1 ho2
  rw [sample_job11] at hJ1
  simp only [sample_job11]
  refine CJ.gives (M' := cel b1 29 [ma, mb] :: (N2 ++ ((cel bR 37 [v1, v2, .slice A9 1 c9, .int .i64 0, .int .i64 11, .int .i64 0] :: NJ1) ++ F))) (Gives.cons (Takes.there (Takes.appR _ (Takes.here _ _))) (Gives.rot (X := cel bR 37 [v1, v2, .slice A9 1 c9, .int .i64 0, .int .i64 11, .int .i64 0] :: NJ1) (A := N2) (F := F))) ?_
  generalize hY : (cel bR 37 [v1, v2, .slice A9 1 c9, .int .i64 0, .int .i64 11, .int .i64 0] :: NJ1) ++ F = Y
  clear ho1 ho2
  refine CJ.seqI (σ := Nat × Value × Value × Option Addr × Nat × List HProp) (fun t => ResF t.2.2.2.2.2 [t.2.1, t.2.2.1, .slice t.2.2.2.1 (jobAll sampleP 0 memS [] 10).out.length t.2.2.2.2.1, .int .i64 (jobAll sampleP 0 memS [] 10).read, .int .i64 (jobAll sampleP 0 memS [] 10).steps, .int .i64 (jobAll sampleP 0 memS [] 10).err] 10 ∧ t.2.1.oneCell' = true ∧ t.2.2.1.oneCell' = true)
    (fun t => [(4, .pointer (some ⟨t.1, 0, none⟩)), (3, .pointer (some ⟨bR, 0, none⟩)), (2, .int .i64 0), (1, .pointer (some ⟨b1, 0, none⟩))])
    (fun t => cel t.1 37 [t.2.1, t.2.2.1, .slice t.2.2.2.1 (jobAll sampleP 0 memS [] 10).out.length t.2.2.2.2.1, .int .i64 (jobAll sampleP 0 memS [] 10).read, .int .i64 (jobAll sampleP 0 memS [] 10).steps, .int .i64 (jobAll sampleP 0 memS [] 10).err] :: (t.2.2.2.2.2 ++ (cel b1 29 [ma, mb] :: (N2 ++ Y)))) ?_ ?_
  · (refine CJ.draws mixed 4 [cel b1 _ _] (by exact kGives) (dom_of (by kernel_rfl)) ?_)
    ((first | refine kAjB 1 ?_ | refine kAjS 1 ?_))
    (refine AJ.loud2 (i := 0) (j := 3) (by kernel_rfl) (by kernel_rfl) rfl (by kernel_rfl) (by kernel_rfl) rfl rfl rfl rfl rfl rfl rfl rfl rfl rfl rfl rfl (OpS.callO (sample_spec w0) (by exact kEv) inferInstance (by exact kEvl) (by exact rfl) (Takes.nil _)) (OpS.alloc (P := Tryz.prog) (vs := [.slice none 0 0, .slice none 0 0, .slice none 0 0, .int .i64 0, .int .i64 0, .int .i64 0]) rfl) ?_ ?_ ?_ ?_)
    · rintro _ _ ⟨N3, ⟨cs3, rfl, hcs3⟩, rfl⟩
      refine ⟨by (repeat (first | exact Gives.nil _ | (apply Gives.cons; (focus (exact Takes.here _ _))) | apply Gives.drop | apply Gives.skipApp)), ?_⟩
      (refine AJ.loud2 (i := 2) (j := 3) (by kernel_rfl) (by kernel_rfl) rfl (by kernel_rfl) (by kernel_rfl) rfl rfl rfl rfl rfl rfl rfl rfl rfl rfl rfl rfl (OpS.callAll (fun w h mm sa => Job_spec w (hT.sat sa) sampleP cs3 sample_fit (hcs3 _ w h _ (mm) sa) 0 memS [ma, mb] (hmF _ w h _ (mm.skip.tail) sa) mem32S (.slice none 0 0) [] ⟨none, 0, rfl, Nat.le_refl _, fun i r h => by simp at h⟩ (by simp) (by simp) 10 (by decide)) (by exact kEv) inferInstance (by exact kEvl) (by exact rfl)) (OpS.alloc (P := Tryz.prog) (vs := [.slice none 0 0, .slice none 0 0, .slice none 0 0, .int .i64 0, .int .i64 0, .int .i64 0]) rfl) ?_ ?_ ?_ ?_)
      · rintro _ _ ⟨NJ, ⟨rcs, rfl, hrc⟩, rfl⟩
        refine ⟨by (repeat (first | exact Gives.nil _ | (apply Gives.cons; (focus (exact Takes.here _ _))) | apply Gives.drop | apply Gives.skipApp)), ?_⟩
        (refine AJ.loud1 (i := 3) (by kernel_rfl) (by kernel_rfl) rfl (by kernel_rfl) (by kernel_rfl) rfl rfl rfl rfl rfl rfl (OpS.alloc (P := Tryz.prog) (vs := [.slice none 0 0, .slice none 0 0, .slice none 0 0, .int .i64 0, .int .i64 0, .int .i64 0]) rfl) ?_ ?_)
        · rintro _ _ ⟨b3, rfl, rfl⟩
          refine ⟨by (repeat (first | exact Gives.nil _ | (apply Gives.cons; (focus (exact Takes.here _ _))) | apply Gives.drop | apply Gives.skipApp)), ?_⟩
          (refine AJ.tail (by kernel_rfl) (by kernel_rfl) rfl (by kernel_rfl) (by kernel_rfl) (by kernel_rfl) ?_)
          refine RL.factS (p := ∃ u v A c, rcs = [u, v, .slice A (jobAll sampleP 0 memS [] 10).out.length c, .int .i64 (jobAll sampleP 0 memS [] 10).read, .int .i64 (jobAll sampleP 0 memS [] 10).steps, .int .i64 (jobAll sampleP 0 memS [] 10).err] ∧ u.oneCell' = true ∧ v.oneCell' = true) (fun w h mm sa => (hrc _ w h _ (mm.tail) sa).cells) ?_
          rintro ⟨u1, u2, A1, c1, rfl, ho1, ho2⟩
          (apply RL.storeA; exact kEv; exact kEv; exact Takes.here _ _; exact rfl; exact (by simp only [List.all_cons, List.all_nil, ho1, ho2]; rfl); exact rfl)
          refine kAutoB ?_
          exact XJ.meet (b3, u1, u2, A1, c1, NJ) ⟨hrc, ho1, ho2⟩ (by exact kEsub) (Gives.cons (Takes.here _ _) Gives.dropMid)
        · rintro _ _ h; exact h.elim
      · rintro _ _ h; exact h.elim
      · rintro _ _ ⟨b3, rfl, rfl⟩
        refine ⟨by (repeat (first | exact Gives.nil _ | (apply Gives.cons; (focus (exact Takes.here _ _))) | apply Gives.drop | apply Gives.skipApp)), ?_⟩
        (refine AJ.loud1 (i := 2) (by kernel_rfl) (by kernel_rfl) rfl (by kernel_rfl) (by kernel_rfl) rfl rfl rfl rfl rfl rfl (OpS.callAll (fun w h mm sa => Job_spec w (hT.sat sa) sampleP cs3 sample_fit (hcs3 _ w h _ (mm.tail) sa) 0 memS [ma, mb] (hmF _ w h _ (mm.tail.skip.tail) sa) mem32S (.slice none 0 0) [] ⟨none, 0, rfl, Nat.le_refl _, fun i r h => by simp at h⟩ (by simp) (by simp) 10 (by decide)) (by exact kEv) inferInstance (by exact kEvl) (by exact rfl)) ?_ ?_)
        · rintro _ _ ⟨NJ, ⟨rcs, rfl, hrc⟩, rfl⟩
          refine ⟨by (repeat (first | exact Gives.nil _ | (apply Gives.cons; (focus (exact Takes.here _ _))) | apply Gives.drop | apply Gives.skipApp)), ?_⟩
          (refine AJ.tail (by kernel_rfl) (by kernel_rfl) rfl (by kernel_rfl) (by kernel_rfl) (by kernel_rfl) ?_)
          refine RL.factS (p := ∃ u v A c, rcs = [u, v, .slice A (jobAll sampleP 0 memS [] 10).out.length c, .int .i64 (jobAll sampleP 0 memS [] 10).read, .int .i64 (jobAll sampleP 0 memS [] 10).steps, .int .i64 (jobAll sampleP 0 memS [] 10).err] ∧ u.oneCell' = true ∧ v.oneCell' = true) (fun w h mm sa => (hrc _ w h _ (mm) sa).cells) ?_
          rintro ⟨u1, u2, A1, c1, rfl, ho1, ho2⟩
          (apply RL.storeA; exact kEv; exact kEv; exact Takes.appR _ (Takes.here _ _); exact rfl; exact (by simp only [List.all_cons, List.all_nil, ho1, ho2]; rfl); exact rfl)
          refine kAutoB ?_
          exact XJ.meet (b3, u1, u2, A1, c1, NJ) ⟨hrc, ho1, ho2⟩ (by exact kEsub) (Gives.cons (Takes.here _ _) Gives.dropMid)
        · rintro _ _ h; exact h.elim
      · rintro _ _ h; exact h.elim
    · rintro _ _ ⟨_, h, _⟩; exact h.elim
    · rintro _ _ ⟨b3, rfl, rfl⟩
      refine ⟨by (repeat (first | exact Gives.nil _ | (apply Gives.cons; (focus (exact Takes.here _ _))) | apply Gives.drop | apply Gives.skipApp)), ?_⟩
      (refine AJ.loud1 (i := 0) (by kernel_rfl) (by kernel_rfl) rfl (by kernel_rfl) (by kernel_rfl) rfl rfl rfl rfl rfl rfl (OpS.callO (sample_spec w0) (by exact kEv) inferInstance (by exact kEvl) (by exact rfl) (Takes.nil _)) ?_ ?_)
      · rintro _ _ ⟨N3, ⟨cs3, rfl, hcs3⟩, rfl⟩
        refine ⟨by (repeat (first | exact Gives.nil _ | (apply Gives.cons; (focus (exact Takes.here _ _))) | apply Gives.drop | apply Gives.skipApp)), ?_⟩
        (refine AJ.loud1 (i := 2) (by kernel_rfl) (by kernel_rfl) rfl (by kernel_rfl) (by kernel_rfl) rfl rfl rfl rfl rfl rfl (OpS.callAll (fun w h mm sa => Job_spec w (hT.sat sa) sampleP cs3 sample_fit (hcs3 _ w h _ (mm) sa) 0 memS [ma, mb] (hmF _ w h _ (mm.skip.tail.tail) sa) mem32S (.slice none 0 0) [] ⟨none, 0, rfl, Nat.le_refl _, fun i r h => by simp at h⟩ (by simp) (by simp) 10 (by decide)) (by exact kEv) inferInstance (by exact kEvl) (by exact rfl)) ?_ ?_)
        · rintro _ _ ⟨NJ, ⟨rcs, rfl, hrc⟩, rfl⟩
          refine ⟨by (repeat (first | exact Gives.nil _ | (apply Gives.cons; (focus (exact Takes.here _ _))) | apply Gives.drop | apply Gives.skipApp)), ?_⟩
          (refine AJ.tail (by kernel_rfl) (by kernel_rfl) rfl (by kernel_rfl) (by kernel_rfl) (by kernel_rfl) ?_)
          refine RL.factS (p := ∃ u v A c, rcs = [u, v, .slice A (jobAll sampleP 0 memS [] 10).out.length c, .int .i64 (jobAll sampleP 0 memS [] 10).read, .int .i64 (jobAll sampleP 0 memS [] 10).steps, .int .i64 (jobAll sampleP 0 memS [] 10).err] ∧ u.oneCell' = true ∧ v.oneCell' = true) (fun w h mm sa => (hrc _ w h _ (mm) sa).cells) ?_
          rintro ⟨u1, u2, A1, c1, rfl, ho1, ho2⟩
          (apply RL.storeA; exact kEv; exact kEv; exact Takes.appR _ (Takes.appR _ (Takes.here _ _)); exact rfl; exact (by simp only [List.all_cons, List.all_nil, ho1, ho2]; rfl); exact rfl)
          refine kAutoB ?_
          exact XJ.meet (b3, u1, u2, A1, c1, NJ) ⟨hrc, ho1, ho2⟩ (by exact kEsub) (Gives.cons (Takes.here _ _) Gives.dropMid)
        · rintro _ _ h; exact h.elim
      · rintro _ _ ⟨_, h, _⟩; exact h.elim
    · rintro _ _ h; exact h.elim
  rintro ⟨bS, w1, w2, A8, c8, NJ2⟩ ⟨hJ2, ho1, ho2⟩
  simp only at hJ2 ho1 ho2
  obtain ⟨e1, e2, e3⟩ := sample_job10
  simp only [e1, e2, e3]
  subst hY
  refine CJ.gives (M' := cel bS 37 [w1, w2, .slice A8 0 c8, .int .i64 (jobAll sampleP 0 memS [] 10).read, .int .i64 10, .int .i64 13] :: cel bR 37 [v1, v2, .slice A9 1 c9, .int .i64 0, .int .i64 11, .int .i64 0] :: (NJ1 ++ F)) (Gives.cons (Takes.here _ _) (Gives.skipApp (Gives.drop (Gives.skipApp (Gives.refl _))))) ?_
  refine CJ.factS (p := ∃ b o, A9 = some ⟨b, o, none⟩) (fun w h mm sa => by
    obtain ⟨_, _, _, e, _, _, A, c, rfl, _, hr⟩ := hJ1 _ w h _ (mm.tail.tail) sa
    simp only [List.cons.injEq, Value.slice.injEq, and_true] at e
    obtain ⟨_, _, ⟨rfl, _⟩, _⟩ := e
    rw [sample_job11] at hr
    obtain ⟨b, o, e, _⟩ := hr.at_ 0 (by simp)
    exact ⟨b, o, e⟩) ?_
  rintro ⟨bo, oo, rfl⟩
  have hout : ∀ X, HasAt w0 (cel bS 37 X :: cel bR 37 [v1, v2, .slice (some ⟨bo, oo, none⟩) 1 c9, .int .i64 0, .int .i64 11, .int .i64 0] :: (NJ1 ++ F)) bo oo [.int .i64 1, .int .i32 3] := fun X => HasAt.of (fun w h mm sa => by
    obtain ⟨_, _, _, e, _, _, A, c, rfl, _, hr⟩ := hJ1 _ w h _ (mm.tail.tail) sa
    simp only [List.cons.injEq, Value.slice.injEq, and_true] at e
    obtain ⟨_, _, ⟨rfl, _⟩, _⟩ := e
    rw [sample_job11] at hr
    obtain ⟨b, o, e, _, hb⟩ := hr.at_ 0 (by simp)
    simp only [Option.some.injEq, Addr.mk.injEq, and_true] at e
    obtain ⟨rfl, rfl⟩ := e
    simpa [intV] using hb)
  refine kAutoB ?_
  apply RL.pur; (exact OpP.indexAddrC 0 (by exact kEv) rfl (by decide) oo (by omega)); exact rfl
  refine kAutoB ?_
  apply RL.pur; (apply OpP.loadA; exact kEv; exact hout _; exact rfl); exact rfl
  refine kAutoB ?_
  apply RL.pur; (apply OpP.eql2; kernel_rfl; kernel_rfl; kernel_rfl; kernel_rfl; exact kEv; exact kEv); exact rfl
  refine kAutoB ?_
  exact XJ.ret1 rfl rfl [] (Gives.drop (Gives.drop (Gives.skipApp (Gives.refl _)))) ⟨rfl, rfl⟩
end Go.Proofs.YtgmapenlgammfaaGreatDoor
