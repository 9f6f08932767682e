import Derived.Test.YtgmapenlgammfaaGreatDoorGJc
import Derived.Test.YtgmapenlgammfaaGreatDoorGK
import Derived.Test.YtgmapenlgammfaaGreatDoorGF
set_option linter.all false
set_option maxRecDepth 100000
/- The walk of InterpJobs. -/
namespace Go.Proofs.YtgmapenlgammfaaGreatDoor
open Go
theorem mat_one {w0 w : World} {h : Frag} {M M' : List HProp} {b T : Nat} {u : Value} {l : List Int} (t : Takes M [cel b T [u]] M') (mm : star M h) (sa : Go.Proofs.YtgmapenlgammfaaGreatDoor.Sat w0 w h) (hi : IntsR w u l) : MatR w (.slice (some ⟨b, 0, none⟩) 1 1) [l] := by
  have hb : Base w b 0 [u] := by
    have := (HasAt.pt (w0 := w0) (o := 0) (vs := [u]) t atAll)
    unfold HasAt at this
    unfold Base
    exact this w h mm sa
  refine ⟨_, 1, [u], rfl, Nat.le_refl _, rfl, ?_, ?_⟩
  · intro i r hr
    rcases i with _ | i
    · simp at hr; subst hr; exact ⟨b, 0, rfl, rfl, by simpa using hb⟩
    · simp at hr
  · intro i x y e1 e2
    rcases i with _ | i
    · simp at e1 e2; subst e1; subst e2; exact hi
    · simp at e1
theorem fits_ref' {p : Prg} (h : validB p = true) (m : Mem) : refFitsB p m = fitsB p m := by
  unfold refFitsB fitsB tasksB
  rw [h]
  by_cases e : p.tasks.length = m.arrays.length
  · simp [e]
  · simp [e, Ne.symm e]
section
attribute [local semireducible] Gives
theorem Gives.under {A X Y : List HProp} (g : Gives X Y) : Gives (A ++ X) (A ++ Y) := fun h s => by
  obtain ⟨h1, h2, l1, l2, d, x, y⟩ := s.split
  exact star.join l1 l2 d x (g h2 y)
theorem Gives.dropTail {A B : List HProp} : Gives (A ++ B) A := fun h s => by
  obtain ⟨h1, h2, l1, l2, d, x, y⟩ := s.split
  exact x.mono l1
end
section
attribute [local semireducible] Gives Takes
theorem Gives.shuffle {A B C : List HProp} {a b : HProp} : Gives (a :: b :: (C ++ (A ++ B))) (A ++ (C ++ (a :: (B ++ [b])))) := fun h s => by
  refine star.perm (List.Perm.symm ?_) s
  refine ((List.perm_middle.append_left A).trans List.perm_middle).trans (List.Perm.cons _ ?_)
  rw [← List.append_assoc, ← List.append_assoc]
  refine (List.perm_append_singleton _ _).trans (List.Perm.cons _ ?_)
  rw [← List.append_assoc]
  exact List.perm_append_comm.append_right B
theorem cubM_put' {i : Nat} {vs : List Value} {uss : List (List Value)} {q : List (List (List Int))} {v : Value} {us : List Value} {m : List (List Int)} (h1 : vs[i]? = some v) (h2 : uss[i]? = some us) (h3 : i < q.length) (F : List HProp) : Gives (matM v us m ++ (cubM (vs.eraseIdx i) (uss.eraseIdx i) (q.eraseIdx i) ++ F)) (cubM vs uss (q.set i m) ++ F) := fun h mm => by
  have := (cubM_take i vs uss (q.set i m) v us m h1 h2 (by simp [h3])).append_right F
  rw [eraseIdx_set, List.append_assoc] at this
  exact star.perm this.symm mm
end
theorem over_set {α : Type} (a b : List α) {i : Nat} (h1 : i < a.length) (h2 : i < b.length) : (a.take i ++ b.drop i).set i a[i] = a.take (i + 1) ++ b.drop (i + 1) := by
  rw [List.set_append_right _ _ (by simp; omega), List.take_succ_eq_append_getElem h1, List.drop_eq_getElem_cons h2]
  rw [List.length_take, Nat.min_eq_left (Nat.le_of_lt h1), Nat.sub_self, List.set_cons_zero, List.append_assoc]
  rfl
set_option maxHeartbeats 1600000 in
theorem jobs_spec (w0 : World) (hT : Tab w0) (p : Prg) (pcs : List Value) (hR : PrgR w0 p pcs) (m : Mem) (mcs : List Value) (hM : MemR w0 mcs m) (h32 : Mem32 m) (hL : MemL m) (inV : Value) (inp : List Int) (hin : IntsR w0 inV inp) (hi32 : ∀ x ∈ inp, I32 x) (t fuel : Int) :
    Spec Tryz.prog w0 3 #[.agg pcs.toArray, .int .i64 t, .agg mcs.toArray, inV, .int .i64 fuel] [] (Is (.bool true)) := by
  have hA := awake_spec w0 hT
  have hG := Great16_spec w0 p pcs hR m mcs hM hL.shared.1 (fun q hq => (hL.each q hq).1) inV inp hin
  have hM0 := hM
  have hR0 := hR
  have hin0 := hin
  obtain ⟨A1, c1, A2, c2, rfl, hcs, hc2, hr1, hts⟩ := hR.ex
  obtain ⟨u, v, rfl, hu, hv⟩ := hM
  have hu0 := hu
  have hv0 := hv
  obtain ⟨A3, c3, vs3, rfl, -, -, -, -⟩ := hu
  obtain ⟨A4, c4, vs4, rfl, -, -, -, -⟩ := hv
  obtain ⟨A5, c5, rfl, hc5, hr5⟩ := hin
  refine Spec.enter (args := [_, _, _, _, _]) Tryz.func3 rfl rfl rfl (fun F => ?_)
  refine kAutoB ?_
  (apply RL.boxR; exact kEv; exact rfl; intro b5)
  (apply RL.boxR; exact kEv; exact rfl; intro b7)
  refine kAutoB ?_
  (apply RL.callIs; exact kEv; exact inferInstance; exact kEvl; exact hA; exact rfl)
  refine kAutoB ?_
  (apply RL.callIs; exact kEv; exact inferInstance; exact kEvl; exact hG; exact rfl)
  cases e1 : greatL p m inp
  case true =>
    refine kAutoB ?_
    exact XJ.ret1 rfl rfl [] (by exact kGives) ⟨rfl, rfl⟩
  obtain ⟨hf, hs⟩ := small_of_great e1
  have hil := hs.inp
  refine kAutoB ?_
  cases e3 : decide (fuel > 3000)
  case true =>
    refine kAutoB ?_
    exact XJ.ret1 rfl rfl [] (by exact kGives) ⟨rfl, rfl⟩
  have hfu : fuel ≤ 3000 := by have := of_decide_eq_false e3; omega
  refine kAutoB ?_
  (apply RL.callK; exact kEv; exact inferInstance; exact kEvl; exact (Takes.nil _); exact (Clone_spec w0 m _ hM0 hs); exact rfl)
  rintro _ _ ⟨vA, vS, vs, uss, us, rfl, hLs, hus, rfl⟩
  (apply RL.buildSlice; exact rfl; exact kEvl; exact rfl; (intro w; kernel_rfl); exact rfl; intro b32)
  refine RL.gives (row_of_cel (n := 0) (sz := 1) rfl (by simp) (by decide) _) ?_
  refine kAutoB ?_
  refine RL.append (by exact kEv) (by exact kEv) (Takes.here _ _) (fun h _ => base_src (by simp) (oneInt inp) hr5) (by simp only [maxLen]; omega) (by omega) rfl (fun A8 c8 => ?_)
  (apply RL.alloc; exact rfl; exact rfl; intro b11)
  refine RL.gives (M' := cel b11 29 [.slice none 0 0, .slice none 0 0] :: rowI (.slice A8 inp.length c8) inp :: rcel b7 29 [.slice A3 m.arrays.length c3, .slice A4 m.shared.length c4] :: rcel b5 25 [.slice A1 p.shared.length c1, .slice A2 p.tasks.length c2] :: (cubA vA vs uss m.arrays ++ (matM vS us m.shared ++ F))) (by
    rw [Nat.zero_add, List.nil_append, List.append_assoc]
    exact Gives.cons (Takes.here _ _) (Gives.cons (Takes.here _ _) (Gives.cons (Takes.appR _ (Takes.appR _ (Takes.here _ _))) (Gives.cons (Takes.appR _ (Takes.appR _ (Takes.here _ _))) (Gives.refl _))))) ?_
  refine RL.factS (p := vA.oneCell' = true ∧ vS.oneCell' = true) (fun w h mm sa => ⟨(cubA_R hLs (Takes.there1 (Takes.there1 (Takes.there1 (Takes.there1 (Takes.app _ _))))) mm sa).slice, (matM_R hus (Takes.there1 (Takes.there1 (Takes.there1 (Takes.there1 (Takes.appR _ (Takes.app _ _)))))) mm sa).slice⟩) ?_
  rintro ⟨hoA, hoS⟩
  (apply RL.storeA; exact kEv; exact kEv; exact Takes.here _ _; exact rfl; exact (by simp only [List.all_cons, List.all_nil, hoA, hoS]; rfl); exact rfl)
  refine kAutoB ?_
  rw [Nat.zero_add]
  (apply RL.callAll; exact kEv; exact inferInstance; exact kEvl; exact rfl; exact (fun w h mm sa => Job_spec w (hT.sat sa) p _ hf (hR0.up sa.below) t m _ ⟨vA, vS, rfl, cubA_R hLs (Takes.there1 (Takes.there1 (Takes.there1 (Takes.there1 (Takes.app _ _))))) mm sa, matM_R hus (Takes.there1 (Takes.there1 (Takes.there1 (Takes.there1 (Takes.appR _ (Takes.app _ _)))))) mm sa⟩ h32 _ inp (row_ints (Takes.there (Takes.here _ _)) mm sa) hi32 (by omega) fuel (by omega)); exact rfl)
  rintro _ NJ ⟨rcs, rfl, hrc⟩
  (apply RL.alloc; exact rfl; exact rfl; intro b13)
  generalize hrr : jobAll p t m inp fuel = r at hrc
  refine RL.factS (p := ∃ u v A c, rcs = [u, v, .slice A r.out.length c, .int .i64 r.read, .int .i64 r.steps, .int .i64 r.err] ∧ u.oneCell' = true ∧ v.oneCell' = true) (fun w h mm sa => (hrc _ w h _ (mm.tail) sa).cells) ?_
  rintro ⟨u1, u2, A7, c7, rfl, ho1, ho2⟩
  (apply RL.storeA; exact kEv; exact kEv; exact Takes.here _ _; exact rfl; exact (by simp only [List.all_cons, List.all_nil, ho1, ho2]; rfl); exact rfl)
  refine RL.gives (M' := cel b13 37 [u1, u2, .slice A7 r.out.length c7, .int .i64 r.read, .int .i64 r.steps, .int .i64 r.err] :: cel b11 29 [vA, vS] :: rowI (.slice A8 inp.length c8) inp :: rcel b7 29 [.slice A3 m.arrays.length c3, .slice A4 m.shared.length c4] :: rcel b5 25 [.slice A1 p.shared.length c1, .slice A2 p.tasks.length c2] :: (NJ ++ (cubA vA vs uss m.arrays ++ (matM vS us m.shared ++ F)))) (Gives.cons (Takes.here _ _) (Gives.cons (Takes.appR _ (Takes.here _ _)) (Gives.cons (Takes.appR _ (Takes.here _ _)) (Gives.cons (Takes.appR _ (Takes.here _ _)) (Gives.cons (Takes.appR _ (Takes.here _ _)) (Gives.refl _)))))) ?_
  refine kAutoB ?_
  refine RL.toBase (fun w h mm sa => ?_)
  have hRw := hR0.up sa.below
  have hMw := hM0.up sa.below
  have hOw : MemR w [vA, vS] m := ⟨vA, vS, rfl, cubA_R hLs (Takes.there1 (Takes.there1 (Takes.there1 (Takes.there1 (Takes.there1 (Takes.appR _ (Takes.app _ _))))))) mm sa, matM_R hus (Takes.there1 (Takes.there1 (Takes.there1 (Takes.there1 (Takes.there1 (Takes.appR _ (Takes.appR _ (Takes.app _ _)))))))) mm sa⟩
  have hVw : IntsR w (.slice A8 inp.length c8) inp := row_ints (Takes.there (Takes.there (Takes.here _ _))) mm sa
  have hIw := hin0.up sa.below
  have hres : ResR w [u1, u2, .slice A7 r.out.length c7, .int .i64 r.read, .int .i64 r.steps, .int .i64 r.err] r := hrc _ w h _ (mm.tail.tail.tail.tail.tail) sa
  have f13 : Base w b13 0 [u1, u2, .slice A7 r.out.length c7, .int .i64 r.read, .int .i64 r.steps, .int .i64 r.err] := cel_base (Takes.here _ _) mm sa
  have f7 : Base w b7 0 [.slice A3 m.arrays.length c3, .slice A4 m.shared.length c4] := rcel_base (Takes.there (Takes.there (Takes.there (Takes.here _ _)))) mm sa
  have f5 : Base w b5 0 [.slice A1 p.shared.length c1, .slice A2 p.tasks.length c2] := rcel_base (Takes.there (Takes.there (Takes.there (Takes.there (Takes.here _ _))))) mm sa
  have f70 := f7.at 0 0 rfl rfl
  have f71 := f7.at 1 (0 + 1) rfl rfl
  have f50 := f5.at 0 0 rfl rfl
  have f51 := f5.at 1 (0 + 1) rfl rfl
  have g13 := f13
  have g7 := f7
  have g5 := f5
  clear f13 f7 f5
  (apply RL.callIs; exact kEv; exact inferInstance; exact kEvl; exact (Equal_spec w _ _ m m hOw hMw hL); exact rfl)
  rw [show eqMem m m = true from (eqMem_iff m m).2 rfl]
  refine kAutoB ?_
  (apply RL.buildSlice; exact rfl; exact kEvl; exact rfl; (intro w; kernel_rfl); exact rfl; intro b47)
  refine kAutoB ?_
  (apply RL.buildSlice; exact rfl; exact kEvl; exact rfl; (intro w; kernel_rfl); exact rfl; intro b49)
  refine kAutoB ?_
  (apply RL.callAll; exact kEv; exact inferInstance; exact kEvl; exact rfl; exact (fun w' h mm sa => lists_spec w' _ _ [inp] [inp] (mat_one (Takes.there (Takes.here _ _)) mm sa (hVw.up sa.below)) (mat_one (Takes.here _ _) mm sa (hIw.up sa.below)) ⟨by simp [maxLen], fun l hl => by simp at hl; subst hl; simp only [maxLen]; omega⟩); exact rfl)
  rintro _ _ ⟨rfl, rfl⟩
  rw [decide_eq_true (rfl : [inp] = [inp])]
  refine kAutoB ?_
  apply RL.pur; (exact OpP.build (xs := []) (vs := []) (r := .agg #[.slice none 0 0, .slice none 0 0, .slice none 0 0, .int .i64 0, .int .i64 0, .int .i64 0]) EvL.nil rfl (fun w => by kernel_rfl)); exact rfl
  (apply RL.alloc; exact rfl; exact rfl; intro b14)
  (apply RL.storeA; exact kEv; exact kEv; exact kTake; exact rfl; exact rfl; exact rfl)
  refine kAutoB ?_
  have hml0 : ∀ e, MemL (errRes e).mem := fun e => ⟨by simp [errRes, maxLen], fun q hq => by simp [errRes] at hq, by simp [errRes, maxLen], fun q hq => by simp [errRes] at hq⟩
  have hol0 : ∀ e, (errRes e).out.length ≤ maxLen := fun e => Nat.zero_le _
  (apply RL.callIs; exact kEv; exact inferInstance; exact kEvl; exact (ok_spec w (hT.sat sa) p _ hf hRw); exact rfl)
  cases e4 : okB p
  case false =>
    have hr0 : r = errRes 3 := by rw [← hrr, jobAll, if_pos e4]
    have hwant : ResR w [.slice none 0 0, .slice none 0 0, .slice none 0 0, .int .i64 0, .int .i64 0, .int .i64 3] r := by rw [hr0]; exact errRes_R w 3
    refine kAutoB ?_
    (apply RL.store; exact kEv; exact kEv; exact kTake; exact rfl; exact rfl; exact rfl)
    refine kAutoB ?_
    (apply RL.callIs; exact kEv; exact inferInstance; exact kEvl; exact (same_spec w _ _ r r hres hwant (by rw [hr0]; exact hml0 3) (by rw [hr0]; exact hol0 3) true); exact rfl)
    rw [sameB_refl]
    refine kAutoB ?_
    exact XJ.ret1B mm sa rfl rfl (by (repeat (first | exact Gives.refl _ | apply Gives.drop | apply Gives.skipApp))) ⟨rfl, rfl⟩
  refine kAutoB ?_
  cases e5 : decide (t < 0)
  case true =>
    have hr0 : r = errRes 2 := by
      rw [← hrr, jobAll, if_neg (by rw [e4]; decide), if_pos (.inl (of_decide_eq_true e5))]
    have hwant : ResR w [.slice none 0 0, .slice none 0 0, .slice none 0 0, .int .i64 0, .int .i64 0, .int .i64 2] r := by rw [hr0]; exact errRes_R w 2
    refine kAutoB ?_
    (apply RL.store; exact kEv; exact kEv; exact kTake; exact rfl; exact rfl; exact rfl)
    refine kAutoB ?_
    (apply RL.callIs; exact kEv; exact inferInstance; exact kEvl; exact (same_spec w _ _ r r hres hwant (by rw [hr0]; exact hml0 2) (by rw [hr0]; exact hol0 2) true); exact rfl)
    rw [sameB_refl]
    refine kAutoB ?_
    exact XJ.ret1B mm sa rfl rfl (by (repeat (first | exact Gives.refl _ | apply Gives.drop | apply Gives.skipApp))) ⟨rfl, rfl⟩
  have h5 := of_decide_eq_false e5
  refine kAutoB ?_
  cases e6 : decide (t ≥ (p.tasks.length : Int))
  case true =>
    have hr0 : r = errRes 2 := by
      rw [← hrr, jobAll, if_neg (by rw [e4]; decide), if_pos (.inr (of_decide_eq_true e6))]
    have hwant : ResR w [.slice none 0 0, .slice none 0 0, .slice none 0 0, .int .i64 0, .int .i64 0, .int .i64 2] r := by rw [hr0]; exact errRes_R w 2
    refine kAutoB ?_
    (apply RL.store; exact kEv; exact kEv; exact kTake; exact rfl; exact rfl; exact rfl)
    refine kAutoB ?_
    (apply RL.callIs; exact kEv; exact inferInstance; exact kEvl; exact (same_spec w _ _ r r hres hwant (by rw [hr0]; exact hml0 2) (by rw [hr0]; exact hol0 2) true); exact rfl)
    rw [sameB_refl]
    refine kAutoB ?_
    exact XJ.ret1B mm sa rfl rfl (by (repeat (first | exact Gives.refl _ | apply Gives.drop | apply Gives.skipApp))) ⟨rfl, rfl⟩
  have h6 := of_decide_eq_false e6
  have hvd : validB p = true := by unfold okB at e4; rw [Bool.and_eq_true] at e4; exact e4.1
  refine kAutoB ?_
  (apply RL.callIs; exact kEv; exact inferInstance; exact kEvl; exact (refFits_spec w p _ hRw hf m _ _ (hu0.up sa.below) (hv0.up sa.below)); exact rfl)
  cases e7 : refFitsB p m
  case false =>
    have hr0 : r = errRes 14 := by
      rw [← hrr, jobAll, if_neg (by rw [e4]; decide), if_neg (by omega), if_pos (by rw [← fits_ref' hvd, e7])]
    have hwant : ResR w [.slice none 0 0, .slice none 0 0, .slice none 0 0, .int .i64 0, .int .i64 0, .int .i64 14] r := by rw [hr0]; exact errRes_R w 14
    refine kAutoB ?_
    (apply RL.store; exact kEv; exact kEv; exact kTake; exact rfl; exact rfl; exact rfl)
    refine kAutoB ?_
    (apply RL.callIs; exact kEv; exact inferInstance; exact kEvl; exact (same_spec w _ _ r r hres hwant (by rw [hr0]; exact hml0 14) (by rw [hr0]; exact hol0 14) true); exact rfl)
    rw [sameB_refl]
    refine kAutoB ?_
    exact XJ.ret1B mm sa rfl rfl (by (repeat (first | exact Gives.refl _ | apply Gives.drop | apply Gives.skipApp))) ⟨rfl, rfl⟩
  refine kAutoB ?_
  obtain ⟨tn, rfl⟩ : ∃ n : Nat, t = (n : Int) := ⟨t.toNat, by omega⟩
  have htn : tn < p.tasks.length := by omega
  have hr : Runs p tn m := ⟨e4, by omega, by omega, by rw [← fits_ref' hvd, e7]⟩
  have hF := fits_facts hf hr.fits
  obtain ⟨C, hC⟩ := chk_of e4 (List.getElem_mem htn)
  have har : tn < m.arrays.length := by have := hF.ar; omega
  have hrun := hr.run inp fuel
  have hown : own m (tn : Int) = m.arrays[tn] := by simp [own, List.getD_eq_getElem?_getD, har]
  have htsk : tsk p (tn : Int) = p.tasks[tn] := by simp [tsk, List.getD_eq_getElem?_getD, htn]
  unfold bodyRun at hrun
  rw [hown, htsk, hrr] at hrun
  have hfacts := hF.ae tn p.tasks[tn] m.arrays[tn] (by simp [htn]) (by simp [har])
  generalize hTT : p.tasks[tn] = T at *
  generalize hmt : m.arrays[tn] = mt at *
  obtain ⟨q1, q2, q3, q4, q5, q6⟩ := hfacts
  have hCu := hu0.up sa.below
  obtain ⟨A3', c3', e3', -, hCa⟩ := hCu.at_
  simp only [Value.slice.injEq, true_and] at e3'
  obtain ⟨rfl, rfl⟩ := e3'
  obtain ⟨ba, oa, vt, rfl, hba, hvt⟩ := hCa tn har
  rw [hmt] at hvt
  have hvS := hv0.up sa.below
  have h32a : ∀ l ∈ mt ++ m.shared, ∀ x ∈ l, I32 x := by
    intro l hl
    rcases List.mem_append.1 hl with hl | hl
    · exact h32.arrays mt (hmt ▸ List.getElem_mem har) l hl
    · exact h32.shared l hl
  have hszl : ∀ l ∈ mt ++ m.shared, l.length ≤ 1000000 := by
    intro l hl
    rcases List.mem_append.1 hl with hl | hl
    · have := q6 l hl; omega
    · have := hF.se l hl; omega
  have hjob := fun (w' : World) (k : Go.RowKit.Below w.heap.size w w') => rJob_spec w' (hRw.up k) tn htn hTT hC vt _ mt m.shared (hvt.up k) (hvS.up k) q1 hF.sh (by have := hF.sl; omega) h32a hszl (by omega) A5 c5 inp (hIw.up k) hi32 fuel (by omega)
  generalize hbr : execN (jobE T p inp fuel) T.body (job0 T mt m.shared) = br at hjob hrun
  obtain ⟨R, hRR⟩ : ∃ R, R = parR T p A5 c5 inp fuel := ⟨_, rfl⟩
  rw [← hRR] at hjob
  refine CJ.env (L' := [(14, .pointer (some ⟨b14, 0, none⟩)), (13, .pointer (some ⟨b13, 0, none⟩)), (7, .pointer (some ⟨b7, 0, none⟩)), (5, .pointer (some ⟨b5, 0, none⟩)), (4, .int .i64 fuel), (3, .slice A5 inp.length c5), (1, .int .i64 tn)]) (by exact kEsub) ?_
  refine CJ.gives (M' := [cel b14 37 [.slice none 0 0, .slice none 0 0, .slice none 0 0, .int .i64 0, .int .i64 0, .int .i64 0]]) (by exact kGives) ?_
  refine CJ.cut (σ := Nat × RSt) (fun s => s.2.r = br ∧ RStOk R (vs0 T.vars) s.2) (fun s => [(15, .pointer (some ⟨s.1, 0, none⟩)), (14, .pointer (some ⟨b14, 0, none⟩)), (13, .pointer (some ⟨b13, 0, none⟩)), (7, .pointer (some ⟨b7, 0, none⟩)), (5, .pointer (some ⟨b5, 0, none⟩)), (1, .int .i64 tn)])
    (fun s => cel s.1 45 (s.2.v R) :: cel b14 37 [.slice none 0 0, .slice none 0 0, .slice none 0 0, .int .i64 0, .int .i64 0, .int .i64 0] :: s.2.m R) ?_ ?_
  · (refine CJ.draws mixed 13 [] (by exact kGives) (dom_of (by kernel_rfl)) ?_)
    ((first | refine kAjB 0 ?_ | refine kAjS 0 ?_); (first | refine kAjB 1 ?_ | refine kAjS 1 ?_); (first | refine kAjB 2 ?_ | refine kAjS 2 ?_); (first | refine kAjB 3 ?_ | refine kAjS 3 ?_); (first | refine kAjB 4 ?_ | refine kAjS 4 ?_))
    (apply AJ.pur (i := 5); exact rfl; exact rfl; exact rfl; exact rfl; exact rfl; exact rfl; exact rfl; exact rfl; exact rfl; (apply OpP.indexAddr; exact kEv; exact kEv; exact har))
    (apply AJ.pur (i := 6); exact rfl; exact rfl; exact rfl; exact rfl; exact rfl; exact rfl; exact rfl; exact rfl; exact rfl; (apply OpP.load; exact kEv; exact HasAt.base hba))
    ((first | refine kAjB 7 ?_ | refine kAjS 7 ?_); (first | refine kAjB 8 ?_ | refine kAjS 8 ?_); (first | refine kAjB 9 ?_ | refine kAjS 9 ?_); (first | refine kAjB 10 ?_ | refine kAjS 10 ?_))
    (refine AJ.loud2 (i := 11) (j := 12) (by kernel_rfl) (by kernel_rfl) rfl (by kernel_rfl) (by kernel_rfl) rfl rfl rfl rfl rfl rfl rfl rfl rfl rfl rfl rfl (OpS.callAll (fun w' h mm sa => hjob w' sa.below) (by exact kEv) inferInstance (by exact kEvl) (by exact rfl)) (OpS.alloc (P := Tryz.prog) (vs := zeroE) rfl) ?_ ?_ ?_ ?_)
    · rintro _ _ ⟨N, ⟨q, he2, hq, rfl, rfl⟩, rfl⟩
      refine ⟨by exact kGives, ?_⟩
      (refine AJ.loud1 (i := 12) (by kernel_rfl) (by kernel_rfl) rfl (by kernel_rfl) (by kernel_rfl) rfl rfl rfl rfl rfl rfl (OpS.alloc (P := Tryz.prog) (vs := zeroE) rfl) ?_ ?_)
      · rintro _ _ ⟨b, rfl, rfl⟩
        refine ⟨by exact kGives, ?_⟩
        (refine AJ.tail (by kernel_rfl) (by kernel_rfl) rfl (by kernel_rfl) (by kernel_rfl) (by kernel_rfl) ?_)
        refine RL.s0 (OpS.storeA (q := 7) kEv kEv (by exact rfl) (vOne R q) (Takes.here _ _) (by exact Nat.le_refl 7)) ?_ (fun _ _ h => h.elim)
        rintro _ _ rfl
        refine kAutoB ?_
        refine XJ.meet (b, q) ⟨he2, hq⟩ (by exact kEsub) (Gives.cons (Takes.here _ _) (Gives.cons (Takes.appR _ (Takes.here _ _)) ?_))
        simp only [List.append_nil]
        exact Gives.refl _
      · rintro _ _ h; exact h.elim
    · rintro _ _ h; exact h.elim
    · rintro _ _ ⟨b, rfl, rfl⟩
      refine ⟨by exact kGives, ?_⟩
      (refine AJ.loud1 (i := 11) (by kernel_rfl) (by kernel_rfl) rfl (by kernel_rfl) (by kernel_rfl) rfl rfl rfl rfl rfl rfl (OpS.callAll (fun w' h mm sa => hjob w' sa.below) (by exact kEv) inferInstance (by exact kEvl) (by exact rfl)) ?_ ?_)
      · rintro _ _ ⟨N, ⟨q, he2, hq, rfl, rfl⟩, rfl⟩
        refine ⟨by exact kGives, ?_⟩
        (refine AJ.tail (by kernel_rfl) (by kernel_rfl) rfl (by kernel_rfl) (by kernel_rfl) (by kernel_rfl) ?_)
        refine RL.s0 (OpS.storeA (q := 7) kEv kEv (by exact rfl) (vOne R q) (Takes.appR _ (Takes.here _ _)) (by exact Nat.le_refl 7)) ?_ (fun _ _ h => h.elim)
        rintro _ _ rfl
        refine kAutoB ?_
        refine XJ.meet (b, q) ⟨he2, hq⟩ (by exact kEsub) (Gives.cons (Takes.here _ _) (Gives.cons (Takes.appR _ (Takes.here _ _)) ?_))
        simp only [List.append_nil]
        exact Gives.refl _
      · rintro _ _ h; exact h.elim
    · rintro _ _ h; exact h.elim
  rintro ⟨b15, q⟩ ⟨hqr, hqo⟩
  simp only at hqr hqo
  refine kAutoB ?_
  have hokb : OKJ (jobE T p inp fuel) ((mt ++ m.shared).map List.length) br.1 := by
    rw [← hbr]
    have := hr.ok0 hf h32 inp hi32 fuel
    unfold bodyRun at this
    rw [hown, htsk] at this
    exact this
  have hclen : q.r.1.cells.length = mt.length + m.shared.length := by rw [hqr, hokb.len]; simp
  have hnl : R.names.length = mt.length + m.shared.length := by rw [hRR]; simp [parR, arrNames, q1, hF.sh]
  have hvl : q.vs.length = T.vars.length := by have := hqo.vl; rw [this]; simp [vs0]
  have hL3 : (q.cells R).length = mt.length + m.shared.length + T.vars.length := by
    unfold RSt.cells
    rw [mkC_len (by omega), hnl, hvl]
  have hul := hqo.us
  rw [hL3] at hul
  (refine CJ.draws mixed 11 [cel b15 _ _] (by exact kGives) (dom_of (by kernel_rfl)) ?_)
  ((first | refine kAjB 0 ?_ | refine kAjS 0 ?_))
  ((first | refine kAjB 2 ?_ | refine kAjS 2 ?_); (first | refine kAjB 3 ?_ | refine kAjS 3 ?_); (first | refine kAjB 4 ?_ | refine kAjS 4 ?_); (first | refine kAjB 5 ?_ | refine kAjS 5 ?_); (first | refine kAjB 6 ?_ | refine kAjS 6 ?_); (first | refine kAjB 7 ?_ | refine kAjS 7 ?_); (first | refine kAjB 8 ?_ | refine kAjS 8 ?_); (first | refine kAjB 9 ?_ | refine kAjS 9 ?_))
  (refine AJ.loud1 (i := 1) (by kernel_rfl) (by kernel_rfl) rfl (by kernel_rfl) (by kernel_rfl) rfl rfl rfl rfl rfl rfl (OpS.call (by exact kEv) inferInstance (by exact kEvl) (Takes.nil _) (Clone_spec w m _ hMw hs)) ?_ ?_)
  rotate_left
  · rintro _ _ ⟨_, h, _⟩; exact h.elim
  rintro _ _ ⟨N, ⟨vA2, vS2, vs2, uss2, us2, rfl, hLs2, hus2, rfl⟩, rfl⟩
  refine ⟨Gives.skipApp (by exact kGives), ?_⟩
  (apply AJ.pur (i := 10); exact rfl; exact rfl; exact rfl; exact rfl; exact rfl; exact rfl; exact rfl; exact rfl; exact rfl; exact OpP.build (r := .agg #[vA2, vS2, .slice q.Ao q.r.1.out.length q.co, .int .i64 q.r.1.read, .int .i64 q.r.1.steps, .int .i64 (errOf q.r)]) (by exact kEvl) rfl (fun w => by kernel_rfl))
  (refine AJ.tail (by kernel_rfl) (by kernel_rfl) rfl (by kernel_rfl) (by kernel_rfl) (by kernel_rfl) ?_)
  refine RL.gives (M' := cel b14 37 [.slice none 0 0, .slice none 0 0, .slice none 0 0, .int .i64 0, .int .i64 0, .int .i64 0] :: cel b15 45 (q.v R) :: (cubA vA2 vs2 uss2 m.arrays ++ (matM vS2 us2 m.shared ++ q.m R))) (by
    rw [List.append_assoc]
    exact Gives.cons (Takes.appR _ (Takes.appR _ (Takes.there (Takes.here _ _)))) (Gives.cons (Takes.appR _ (Takes.appR _ (Takes.here _ _))) (Gives.refl _))) ?_
  refine RL.factS (p := vA2.oneCell' = true ∧ vS2.oneCell' = true) (fun w h mm sa => ⟨(cubA_R hLs2 (Takes.there1 (Takes.there1 (Takes.app _ _))) mm sa).slice, (matM_R hus2 (Takes.there1 (Takes.there1 (Takes.appR _ (Takes.app _ _)))) mm sa).slice⟩) ?_
  rintro ⟨hoA2, hoS2⟩
  (apply RL.storeA; exact kEv; exact kEv; exact Takes.here _ _; exact rfl; exact (by simp only [List.all_cons, List.all_nil, hoA2, hoS2]; rfl); exact rfl)
  refine kAutoB ?_
  obtain ⟨bt, ot, rt, rfl, hbt, hrt, hrtR⟩ := (hts.up sa.below).at_ tn htn
  rw [hTT] at hrtR
  obtain ⟨A9, c9, A6, c6, bs, rfl, -, -, -, -, -⟩ := hrtR.ex
  have f3 := hbt.at' 3 (ot + tn * 8 + 3) rfl rfl
  apply RL.pur; (apply OpP.indexAddr; exact kEv; exact kEv; exact htn); exact rfl
  refine kAutoB ?_
  obtain ⟨vtt, hvtt⟩ : ∃ x, vs2[tn]? = some x := ⟨_, List.getElem?_eq_getElem (by have := hLs2.l1; omega)⟩
  obtain ⟨ust, hust⟩ : ∃ x, uss2[tn]? = some x := ⟨_, List.getElem?_eq_getElem (by have := hLs2.l2; omega)⟩
  have hmtn : m.arrays[tn]? = some mt := by rw [List.getElem?_eq_getElem har, hmt]
  have hutl := hLs2.each tn _ _ hust hmtn
  -- the reference's slices: the task's, the shared ones, the others
  obtain ⟨usA, usB, usL, huq, hA1, hB1⟩ : ∃ usA usB usL, q.us = usA ++ (usB ++ usL) ∧ usA.length = mt.length ∧ usB.length = m.shared.length := ⟨q.us.take mt.length, (q.us.drop mt.length).take m.shared.length, (q.us.drop mt.length).drop m.shared.length, by rw [List.take_append_drop, List.take_append_drop], by simp [hul]; omega, by simp [hul]; omega⟩
  have hcm : (q.cells R).map RC.l = q.r.1.cells.take mt.length ++ (q.r.1.cells.drop mt.length ++ (locC q.vs).map RC.l) := by
    unfold RSt.cells mkC
    rw [List.map_append, arrC_l _ _ (by omega), ← List.append_assoc, List.take_append_drop]
  have hinn : innerM q.us ((q.cells R).map RC.l) = innerM usA (q.r.1.cells.take mt.length) ++ (innerM usB (q.r.1.cells.drop mt.length) ++ innerM usL ((locC q.vs).map RC.l)) := by
    rw [hcm, huq, innerM_append _ _ _ _ (by simp [hclen]; omega), innerM_append _ _ _ _ (by simp [hclen]; omega)]
  obtain ⟨Z, hZ⟩ : ∃ Z, Z = cubM (vs2.eraseIdx tn) (uss2.eraseIdx tn) (m.arrays.eraseIdx tn) ++ (innerM usA (q.r.1.cells.take mt.length) ++ innerM usB (q.r.1.cells.drop mt.length)) := ⟨_, rfl⟩
  have hzip : ∀ i, i < (q.cells R).length → ∃ c u, (q.cells R)[i]? = some c ∧ q.us[i]? = some u ∧ (List.zipWith rcRow (q.cells R) q.us).flatten[i * 3 + 2]? = some u := by
    intro i hi
    have hi2 : i < q.us.length := by omega
    refine ⟨(q.cells R)[i], q.us[i], List.getElem?_eq_getElem hi, List.getElem?_eq_getElem hi2, ?_⟩
    exact flat_get (zip_three (q.cells R) q.us) (j := 2) (r := rcRow (q.cells R)[i] q.us[i]) (by rw [List.getElem?_eq_getElem (by simp; omega), List.getElem_zipWith]) rfl
  refine CJ.gives (M' := cel b14 37 [vA2, vS2, .slice q.Ao q.r.1.out.length q.co, .int .i64 q.r.1.read, .int .i64 q.r.1.steps, .int .i64 (errOf q.r)] :: cel b15 45 (q.v R) :: row 27 1 vA2 m.arrays.length vs2 :: row 54 3 (.slice q.A (q.cells R).length q.c) (q.cells R).length (List.zipWith rcRow (q.cells R) q.us).flatten :: row 30 1 vtt mt.length ust :: row 30 1 vS2 m.shared.length us2 :: row 106 2 (.slice q.Ao q.r.1.out.length q.co) q.r.1.out.length (outCells q.r.1.out) :: Z) ?_ ?_
  · refine Gives.cons (Takes.here _ _) (Gives.cons (Takes.here _ _) (Gives.cons (Takes.here _ _) (Gives.cons (Takes.appR (cubM vs2 uss2 m.arrays) (Takes.appR (matM vS2 us2 m.shared) (Takes.there (Takes.here _ _)))) (Gives.cons (Takes.head (cubM_takes hvtt hust hmtn _)) (Gives.cons (Takes.appR (innerM ust mt) (Takes.appR (cubM (vs2.eraseIdx tn) (uss2.eraseIdx tn) (m.arrays.eraseIdx tn)) (Takes.here _ _))) (Gives.cons (Takes.appR (innerM ust mt) (Takes.appR (cubM (vs2.eraseIdx tn) (uss2.eraseIdx tn) (m.arrays.eraseIdx tn)) (Takes.appR (innerM us2 m.shared) (Takes.here _ _)))) ?_))))))
    rw [hZ, hinn]
    refine Gives.skipApp (Gives.trans Gives.dropMid (Gives.under (Gives.under Gives.dropTail)))
  refine CJ.factS (p := (∀ i u, usA[i]? = some u → ∃ A n c, u = Value.slice A n c) ∧ ∀ i u, usB[i]? = some u → ∃ A n c, u = Value.slice A n c) (fun w h mm sa => by
    rw [hZ] at mm
    refine ⟨fun i u hu => ?_, fun i u hu => ?_⟩
    · have hi := (List.getElem?_eq_some_iff.1 hu).1
      obtain ⟨l, hl⟩ : ∃ l, (q.r.1.cells.take mt.length)[i]? = some l := ⟨_, List.getElem?_eq_getElem (by rw [List.length_take]; omega)⟩
      obtain ⟨A, c, e⟩ := row_slice (Takes.there1 (Takes.there1 (Takes.there1 (Takes.there1 (Takes.there1 (Takes.there1 (Takes.there1 (Takes.appR _ (innerM_take hu hl _))))))))) mm
      exact ⟨A, _, c, e⟩
    · have hi := (List.getElem?_eq_some_iff.1 hu).1
      obtain ⟨l, hl⟩ : ∃ l, (q.r.1.cells.drop mt.length)[i]? = some l := ⟨_, List.getElem?_eq_getElem (by rw [List.length_drop]; omega)⟩
      have mm2 := mm
      rw [show innerM usB (q.r.1.cells.drop mt.length) = innerM usB (q.r.1.cells.drop mt.length) ++ [] by simp] at mm2
      obtain ⟨A, c, e⟩ := row_slice (Takes.there1 (Takes.there1 (Takes.there1 (Takes.there1 (Takes.there1 (Takes.there1 (Takes.there1 (Takes.appR _ (Takes.appR _ (innerM_take hu hl [])))))))))) mm2
      exact ⟨A, _, c, e⟩) ?_
  rintro ⟨hslA, hslB⟩
  refine CJ.loop (σ := Nat) (fun i => i ≤ T.arrays.length) (fun i => [(85, .int .i64 (i : Int)), (84, .int .i64 (T.arrays.length : Int)), (16, .int .i64 (T.arrays.length : Int)), (15, .pointer (some ⟨b15, 0, none⟩)), (14, .pointer (some ⟨b14, 0, none⟩)), (13, .pointer (some ⟨b13, 0, none⟩)), (5, .pointer (some ⟨b5, 0, none⟩)), (1, .int .i64 tn)])
    (fun i => cel b14 37 [vA2, vS2, .slice q.Ao q.r.1.out.length q.co, .int .i64 q.r.1.read, .int .i64 q.r.1.steps, .int .i64 (errOf q.r)] :: cel b15 45 (q.v R) :: row 27 1 vA2 m.arrays.length vs2 :: row 54 3 (.slice q.A (q.cells R).length q.c) (q.cells R).length (List.zipWith rcRow (q.cells R) q.us).flatten :: row 30 1 vtt mt.length (usA.take i ++ ust.drop i) :: row 30 1 vS2 m.shared.length us2 :: row 106 2 (.slice q.Ao q.r.1.out.length q.co) q.r.1.out.length (outCells q.r.1.out) :: Z) (fun i => T.arrays.length - i) 0 (Nat.zero_le _) (by exact kEsub) (Gives.refl _) ?_
  intro i hi
  refine kAutoB ?_
  cases hlt : decide ((i : Int) < (T.arrays.length : Int))
  case true =>
    have hlt' : i < T.arrays.length := by have := of_decide_eq_true hlt; omega
    refine kAutoB ?_
    refine CJ.factS (p := (∃ b c, vA2 = .slice (some ⟨b, 0, none⟩) m.arrays.length c) ∧ (∃ b c, Value.slice q.A (q.cells R).length q.c = .slice (some ⟨b, 0, none⟩) (q.cells R).length c) ∧ ∃ b c, vtt = .slice (some ⟨b, 0, none⟩) mt.length c) (fun w h mm sa => ⟨row_ptr (Takes.there (Takes.there (Takes.here _ _))) mm (by omega), row_ptrN' (Takes.there (Takes.there (Takes.there (Takes.here _ _)))) mm (by omega), row_ptr (Takes.there (Takes.there (Takes.there (Takes.there (Takes.here _ _))))) mm (by omega)⟩) ?_
    rintro ⟨⟨bA, cA, rfl⟩, ⟨bC, cC, eC⟩, ⟨bV, cV, rfl⟩⟩
    have hqA : q.A = some ⟨bC, 0, none⟩ := by simp only [Value.slice.injEq] at eC; exact eC.1
    obtain ⟨ci, ui, hci, hui, hzi⟩ := hzip i (by omega)
    have huA : ui = usA[i]'(by omega) := by
      rw [huq, List.getElem?_append_left (by omega), List.getElem?_eq_getElem (by omega)] at hui
      injection hui with hui
      exact hui.symm
    (refine CJ.draws mixed 14 [cel b14 _ _, cel b15 _ _, row _ _ (.slice (some ⟨bA, 0, none⟩) _ _) _ _, row 54 3 _ _ _] (by exact kGives) (dom_of (by kernel_rfl)) ?_)
    ((first | refine kAjB 0 ?_ | refine kAjS 0 ?_); (first | refine kAjB 1 ?_ | refine kAjS 1 ?_); (first | refine kAjB 2 ?_ | refine kAjS 2 ?_); (first | refine kAjB 3 ?_ | refine kAjS 3 ?_))
    (apply AJ.pur (i := 4); exact rfl; exact rfl; exact rfl; exact rfl; exact rfl; exact rfl; exact rfl; exact rfl; exact rfl; (apply OpP.indexAddr; exact kEv; exact kEv; exact har))
    (apply AJ.pur (i := 5); exact rfl; exact rfl; exact rfl; exact rfl; exact rfl; exact rfl; exact rfl; exact rfl; exact rfl; (apply OpP.load; exact kEv; exact row_atN (Takes.there (Takes.there (Takes.here _ _))) hvtt (by omega)))
    ((first | refine kAjB 6 ?_ | refine kAjS 6 ?_); (first | refine kAjB 7 ?_ | refine kAjS 7 ?_); (first | refine kAjB 8 ?_ | refine kAjS 8 ?_); (first | refine kAjB 9 ?_ | refine kAjS 9 ?_))
    rw [hqA]
    (apply AJ.pur (i := 10); exact rfl; exact rfl; exact rfl; exact rfl; exact rfl; exact rfl; exact rfl; exact rfl; exact rfl; (apply OpP.indexAddr; exact kEv; exact kEv; exact (show i < (q.cells R).length by omega)))
    ((first | refine kAjB 11 ?_ | refine kAjS 11 ?_))
    (apply AJ.pur (i := 12); exact rfl; exact rfl; exact rfl; exact rfl; exact rfl; exact rfl; exact rfl; exact rfl; exact rfl; (apply OpP.load; exact kEv; exact row_atN (Takes.there (Takes.there (Takes.there (Takes.here _ _)))) hzi (by omega)))
    (apply AJ.pur (i := 13); exact rfl; exact rfl; exact rfl; exact rfl; exact rfl; exact rfl; exact rfl; exact rfl; exact rfl; (apply OpP.indexAddr; exact kEv; exact kEv; exact (show i < mt.length by omega)))
    (refine AJ.tail (by kernel_rfl) (by kernel_rfl) rfl (by kernel_rfl) (by kernel_rfl) (by kernel_rfl) ?_)
    obtain ⟨Ai, ni, ki, hsi⟩ := hslA i ui (by rw [huA]; exact List.getElem?_eq_getElem _)
    refine RL.rowSet (i := 0 + i * 1) (v := ui) kEv kEv (by rw [hsi]; rfl) (by rw [hsi]; rfl) (Takes.there (Takes.there (Takes.there (Takes.there (Takes.here _ _))))) (by simp; omega) ?_
    rw [show 0 + i * 1 = i by omega, huA, over_set usA ust (by omega) (by omega)]
    refine kAutoB ?_
    rw [i64_succ i (by omega)]
    refine XJ.round (i + 1) (by omega) (by omega) (by exact kEsub) ?_
    rw [← hqA]
    exact kGives
  have hge : i = T.arrays.length := by have := of_decide_eq_false hlt; omega
  subst hge
  rw [show usA.take T.arrays.length ++ ust.drop T.arrays.length = usA by rw [List.take_of_length_le (by omega), List.drop_of_length_le (by omega), List.append_nil]]
  refine kAutoB ?_
  refine CJ.loop (σ := Nat) (fun i => i ≤ p.shared.length) (fun i => [(106, .int .i64 (i : Int)), (105, .int .i64 (p.shared.length : Int)), (16, .int .i64 (T.arrays.length : Int)), (15, .pointer (some ⟨b15, 0, none⟩)), (14, .pointer (some ⟨b14, 0, none⟩)), (13, .pointer (some ⟨b13, 0, none⟩))])
    (fun i => cel b14 37 [vA2, vS2, .slice q.Ao q.r.1.out.length q.co, .int .i64 q.r.1.read, .int .i64 q.r.1.steps, .int .i64 (errOf q.r)] :: cel b15 45 (q.v R) :: row 27 1 vA2 m.arrays.length vs2 :: row 54 3 (.slice q.A (q.cells R).length q.c) (q.cells R).length (List.zipWith rcRow (q.cells R) q.us).flatten :: row 30 1 vtt mt.length usA :: row 30 1 vS2 m.shared.length (usB.take i ++ us2.drop i) :: row 106 2 (.slice q.Ao q.r.1.out.length q.co) q.r.1.out.length (outCells q.r.1.out) :: Z) (fun i => p.shared.length - i) 0 (Nat.zero_le _) (by exact kEsub) (Gives.refl _) ?_
  clear hlt hi
  intro i hi
  have hsh := hF.sh
  have hsl4 := hF.sl
  refine kAutoB ?_
  cases hlt : decide ((i : Int) < (p.shared.length : Int))
  case true =>
    have hlt' : i < p.shared.length := by have := of_decide_eq_true hlt; omega
    refine kAutoB ?_
    refine CJ.factS (p := (∃ b c, vS2 = .slice (some ⟨b, 0, none⟩) m.shared.length c) ∧ (∃ b c, Value.slice q.A (q.cells R).length q.c = .slice (some ⟨b, 0, none⟩) (q.cells R).length c)) (fun w h mm sa => ⟨row_ptr (Takes.there (Takes.there (Takes.there (Takes.there (Takes.there (Takes.here _ _)))))) mm (by omega), row_ptrN' (Takes.there (Takes.there (Takes.there (Takes.here _ _)))) mm (by omega)⟩) ?_
    rintro ⟨⟨bV, cV, rfl⟩, ⟨bC, cC, eC⟩⟩
    have hqA : q.A = some ⟨bC, 0, none⟩ := by simp only [Value.slice.injEq] at eC; exact eC.1
    obtain ⟨ci, ui, hci, hui, hzi⟩ := hzip (T.arrays.length + i) (by omega)
    have huB : ui = usB[i]'(by omega) := by
      rw [huq, List.getElem?_append_right (by omega), List.getElem?_append_left (by omega), List.getElem?_eq_getElem (by omega)] at hui
      injection hui with hui
      rw [← hui]
      congr 1
      omega
    (refine CJ.draws mixed 13 [cel b14 _ _, cel b15 _ _, row 54 3 _ _ _] (by exact kGives) (dom_of (by kernel_rfl)) ?_)
    ((first | refine kAjB 0 ?_ | refine kAjS 0 ?_); (first | refine kAjB 1 ?_ | refine kAjS 1 ?_); (first | refine kAjB 2 ?_ | refine kAjS 2 ?_); (first | refine kAjB 3 ?_ | refine kAjS 3 ?_); (first | refine kAjB 4 ?_ | refine kAjS 4 ?_); (first | refine kAjB 5 ?_ | refine kAjS 5 ?_); (first | refine kAjB 6 ?_ | refine kAjS 6 ?_); (first | refine kAjB 7 ?_ | refine kAjS 7 ?_); (first | refine kAjB 8 ?_ | refine kAjS 8 ?_))
    rw [hqA, wrap64 (n := (T.arrays.length : Int) + (i : Int)) ⟨by omega, by omega⟩, show (T.arrays.length : Int) + (i : Int) = ((T.arrays.length + i : Nat) : Int) by omega]
    (apply AJ.pur (i := 9); exact rfl; exact rfl; exact rfl; exact rfl; exact rfl; exact rfl; exact rfl; exact rfl; exact rfl; (apply OpP.indexAddr; exact kEv; exact kEv; exact (show T.arrays.length + i < (q.cells R).length by omega)))
    ((first | refine kAjB 10 ?_ | refine kAjS 10 ?_))
    (apply AJ.pur (i := 11); exact rfl; exact rfl; exact rfl; exact rfl; exact rfl; exact rfl; exact rfl; exact rfl; exact rfl; (apply OpP.load; exact kEv; exact row_atN (Takes.there (Takes.there (Takes.here _ _))) hzi (by omega)))
    (apply AJ.pur (i := 12); exact rfl; exact rfl; exact rfl; exact rfl; exact rfl; exact rfl; exact rfl; exact rfl; exact rfl; (apply OpP.indexAddr; exact kEv; exact kEv; exact (show i < m.shared.length by omega)))
    (refine AJ.tail (by kernel_rfl) (by kernel_rfl) rfl (by kernel_rfl) (by kernel_rfl) (by kernel_rfl) ?_)
    obtain ⟨Ai, ni, ki, hsi⟩ := hslB i ui (by rw [huB]; exact List.getElem?_eq_getElem _)
    refine RL.rowSet (i := 0 + i * 1) (v := ui) kEv kEv (by rw [hsi]; rfl) (by rw [hsi]; rfl) (Takes.there (Takes.there (Takes.there (Takes.there (Takes.there (Takes.here _ _)))))) (by simp; omega) ?_
    rw [show 0 + i * 1 = i by omega, huB, over_set usB us2 (by omega) (by omega)]
    refine kAutoB ?_
    rw [i64_succ i (by omega)]
    refine XJ.round (i + 1) (by omega) (by omega) (by exact kEsub) ?_
    rw [← hqA]
    exact kGives
  have hge : i = p.shared.length := by have := of_decide_eq_false hlt; omega
  subst hge
  rw [show usB.take p.shared.length ++ us2.drop p.shared.length = usB by rw [List.take_of_length_le (by omega), List.drop_of_length_le (by omega), List.append_nil]]
  refine kAutoB ?_
  subst hqr
  have hsz := hr.sizes hf h32 hi32 hs fuel (by omega)
  rw [hrr] at hsz
  have hLs3 : Lens vs2 (uss2.set tn usA) (m.arrays.set tn (q.r.1.cells.take mt.length)) := by
    refine ⟨by simp [hLs2.l1], by simp [hLs2.l2], ?_⟩
    intro j us' m' e1 e2
    by_cases hj : tn = j
    · subst hj
      rw [List.getElem?_set_self (by have := hLs2.l2; omega)] at e1
      rw [List.getElem?_set_self har] at e2
      injection e1 with e1
      injection e2 with e2
      rw [← e1, ← e2, List.length_take]
      omega
    · rw [List.getElem?_set_ne hj] at e1 e2
      exact hLs2.each j _ _ e1 e2
  have hut3 : (uss2.set tn usA)[tn]? = some usA := List.getElem?_set_self (by have := hLs2.l2; omega)
  refine RL.gives (M' := cubA vA2 vs2 (uss2.set tn usA) (m.arrays.set tn (q.r.1.cells.take mt.length)) ++ (matM vS2 usB (q.r.1.cells.drop mt.length) ++ [row 106 2 (.slice q.Ao q.r.1.out.length q.co) q.r.1.out.length (outCells q.r.1.out)])) ?_ ?_
  · rw [hZ]
    unfold cubA
    rw [List.length_set]
    refine Gives.cons (Takes.there (Takes.there (Takes.here _ _))) ?_
    refine Gives.trans ?_ (cubM_put' hvtt hut3 har _)
    unfold matM
    rw [eraseIdx_set, List.length_take, Nat.min_eq_left (by omega), List.length_drop, hclen, Nat.add_sub_cancel_left]
    refine Gives.cons (Takes.there (Takes.there (Takes.there (Takes.here _ _)))) ?_
    exact Gives.drop (Gives.drop (Gives.drop Gives.shuffle))
  (apply RL.callAll; exact kEv; exact inferInstance; exact kEvl; exact rfl; exact (fun w' h mm sa' => same_spec w' _ _ r r (hres.up sa'.below) (by rw [hrun]; exact ⟨vA2, vS2, _, rfl, cubA_R hLs3 (Takes.app _ _) mm sa', matM_R (show usB.length = (q.r.1.cells.drop mt.length).length by rw [List.length_drop]; omega) (Takes.appR _ (Takes.app _ _)) mm sa', row_outs (Takes.appR _ (Takes.appR _ (Takes.here _ _))) mm sa'⟩) hsz.1 (by simp only [maxLen]; omega) true); exact rfl)
  rintro _ _ ⟨rfl, rfl⟩
  rw [sameB_refl]
  refine kAutoB ?_
  exact XJ.ret1B mm sa rfl rfl (by (repeat (first | exact Gives.refl _ | apply Gives.drop | apply Gives.skipApp))) ⟨rfl, rfl⟩
end Go.Proofs.YtgmapenlgammfaaGreatDoor

/- InterpJobs: the card. -/
namespace Go.Proofs.YtgmapenlgammfaaGreatDoor.interpJobs
open Go Go.ChangeShapes Go.WideShapes Go.ChangeAt Go.RowKit
theorem contract (H : Type) (enc : TypeId × Value → H) (W : World) (base : Nat) (args : Array Value) (ds gs : List (DataW H)) (before : List MemPlace)
    (hval : ∀ (j : Nat) t v, Tryz.f3.params[j]? = some t → args[j]? = some v → Value.okWide Tryz.prog W .any base t v)
    (hW : DataW.Whole enc Tryz.prog Tryz.f3.params.toList Rows.interpJobsSpec.vars false W args.toList ds gs before) (hL : laidMetH Tryz.prog Rows.interpJobsRow.laid W) :
    Calls Tryz.prog 3 args W fun e W' => ∃ v, e = .returned v ∧ Rows.interpJobsSpec.post enc Tryz.prog Tryz.f3 false true false false W args v W' := by
  have hW' := hW
  obtain ⟨p, q, hA, hV, rfl, hfz, hnd⟩ := hW
  rw [Tryz.params3] at hA hval
  obtain ⟨v0, vs0, d0, ds0, p'0, q0, hargs, rfl, rfl, h0, r0⟩ := trodAll_cons hA
  obtain ⟨v1, vs1, d1, ds1, p'1, q1, rfl, rfl, rfl, h1, r1⟩ := trodAll_cons r0
  obtain ⟨v2, vs2, d2, ds2, p'2, q2, rfl, rfl, rfl, h2, r2⟩ := trodAll_cons r1
  obtain ⟨v3, vs3, d3, ds3, p'3, q3, rfl, rfl, rfl, h3, r3⟩ := trodAll_cons r2
  obtain ⟨v4, vs4, d4, ds4, p'4, q4, rfl, rfl, rfl, h4, r4⟩ := trodAll_cons r3
  obtain ⟨rfl, rfl, rfl⟩ := trodAll_nil r4
  obtain rfl : args = #[v0, v1, v2, v3, v4] := by cases args; simp_all
  obtain ⟨cs0, p0, rfl, hR0, hS0⟩ := arg_program (hval 0 _ v0 rfl rfl) h0
  obtain ⟨x1, rfl, rfl, rfl, hw1⟩ := open_int Tryz.underlying3 (hval 1 _ v1 rfl rfl) h1
  have hb1 := bounds_i64 hw1
  obtain ⟨cs2, m2, rfl, hM2, h322, hL2⟩ := arg_memory (hval 2 _ v2 rfl rfl) h2
  obtain ⟨l3, hl3, hi3, hn3⟩ := arg_ints (hval 3 _ v3 rfl rfl) h3
  obtain ⟨x4, rfl, rfl, rfl, hw4⟩ := open_int Tryz.underlying3 (hval 4 _ v4 rfl rfl) h4
  have hb4 := bounds_i64 hw4
  refine law_contract rfl (by kernel_rfl) (by rw [Tryz.params3]; decide +kernel) ?_ hW' (jobs_spec W (tab_of hL) p0 cs0 hR0 m2 cs2 hM2 h322 hL2 v3 l3 hl3 hi3 x1 x4).walk
  intro ds hl
  rw [Tryz.params3] at hl
  match ds, hl with
  | [d1, d2, d3, d4, d5], _ => rfl
/-- The witness's arguments. -/
def wargs : Array Value := #[.agg #[.slice none 0 0, .slice none 0 0], .int .i64 0, .agg #[.slice none 0 0, .slice none 0 0], .slice none 0 0, .int .i64 0]
theorem reads (os : Os) {H : Type} (enc : TypeId × Value → H) : ∃ places, DataW.whole enc Tryz.prog ((World.laidAll Tryz.prog os Rows.interpJobsRow.laid).forCall (fun _ _ => 0) ⟨#[], wargs, []⟩).memory Tryz.f3.params.toList Rows.interpJobsSpec.vars false wargs.toList 8 = some ([.agg [.nil, .nil], .lit (.int .i64 0), .agg [.nil, .nil], .nil, .lit (.int .i64 0)], [], places) :=
  ⟨[], by kernel_rfl⟩
theorem lifted (os : Os) (started : os.Started) (H : Type) (enc : TypeId × Value → H) (F : Stop.Interp) :
    ReturnsInHanded {} Tryz.checked os 3 .any ((OpenSpec.ofChange Rows.interpJobsSpec).preRow enc Tryz.prog Tryz.f3 Rows.interpJobsRow.domain false Rows.interpJobsRow.laid) (((OpenSpec.ofChange Rows.interpJobsSpec).at F).post enc Tryz.prog Tryz.f3 false true false false) := by
  obtain ⟨places, hx⟩ := reads os enc
  refine returnsInHanded_of_row (C := Tryz.checked) (s := OpenSpec.ofChange Rows.interpJobsSpec) noKnob started (by kernel_rfl) Tryz.func3
    (witness wargs (by kernel_rfl) (OpenSpec.preRow_of_cond 8 hx (by kernel_rfl) (fun k hk => by cases hk) (by kernel_rfl) (laid_met wargs))) ?_
  intro W base args ds gs before hval hW _ _ _ hL _ _
  exact contract H enc W base args ds gs before hval hW hL
theorem said : Rows.InterpJobsSaid :=
  OpenClaim.holds_of_cond 3 Tryz.f3 rfl rfl rfl rfl rfl rfl rfl ⟨rfl, rfl, rfl, rfl, rfl⟩ rfl rfl rfl rfl rfl (by kernel_rfl) Tryz.func3 (by kernel_rfl)
    (of_decide_eq_true (by kernel_rfl)) (by unfold Func.isWrapper; first | (rw [if_pos (by decide +kernel)]; kernel_rfl) | (rw [if_neg (by decide +kernel)]; exact ⟨rfl, rfl⟩))
    (fun os started H enc _ F => by rw [OpenClaim.pre_eq_preRow]; exact lifted os started H enc F)
theorem plain (f : FuncId) (fn : Func) (hf : Tryz.pinned.checked.prog.funcNamed "ontime/ontimelaw16.InterpJobs" = some f) (hfn : Tryz.pinned.checked.prog.funcs[f]? = some fn) :
    true = Tryz.pinned.checked.prog.looks [] ∧ ∀ (j : Nat) t, fn.params[j]? = some t → Tryz.pinned.checked.prog.wantsStandIn t = false := by
  obtain rfl : f = 3 := Option.some.inj ((show Tryz.prog.funcNamed "ontime/ontimelaw16.InterpJobs" = some 3 by kernel_rfl).symm.trans hf) |>.symm
  obtain rfl : fn = Tryz.f3 := (Option.some.inj (Tryz.func3.symm.trans hfn)).symm
  refine ⟨by kernel_rfl, fun j t ht => ?_⟩
  have h : (Tryz.f3.params.toList.all fun t => !Tryz.prog.wantsStandIn t) = true := by kernel_rfl
  have h' : (!Tryz.prog.wantsStandIn t) = true := List.all_eq_true.1 h t (by simpa using Array.mem_of_getElem? ht)
  exact (show Tryz.prog.wantsStandIn t = false by simpa using h')
/-- ████ THE CARD ████ -/
theorem card : Rows.InterpJobsCardSaid :=
  Claim7.holds_tied_plain_at .later [] _ _ _ _ said (fun _ h => by cases h) (by kernel_rfl) (fun _ h => by cases h) interpJobs_row_tie rfl ⟨rfl, rfl⟩ (by kernel_rfl) rfl plain (by kernel_rfl)
end Go.Proofs.YtgmapenlgammfaaGreatDoor.interpJobs
