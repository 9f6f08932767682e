import Derived.Test.YtgmapenlgammfaaDoorGK
import Derived.Test.YtgmapenlgammfaaDoorGF
set_option linter.all false
set_option maxRecDepth 100000
/- The law InterpNew: the walk. -/
namespace Go.Proofs.YtgmapenlgammfaaDoor
open Go
section
attribute [local semireducible] Gives
theorem Gives.run {M N : List HProp} (g : Gives M N) {h : Frag} (m : star M h) : star N h := g h m
end
section
attribute [local semireducible] OpP Ev
theorem OpP.bneq {P : Program} {w0 : World} {L : Env} {M : List HProp} {dd : Option Tmp} {T : TypeId} {p : String} {af : Array Edge} {gg : Option (Nat × Bool)} {t u : TypeId} {x y : Operand} {a b : Bool} (h : P.underlying t = some .bool)
    (hx : Ev L x (.bool a)) (hy : Ev L y (.bool b)) : OpP P w0 L M ⟨dd, .binOp .neq t x y u, T, p, af, gg⟩ (.bool (a != b)) := fun n ac w hh s _ _ => by
  have he : (Op.equalIn (9999 + 1) t (.bool a) (.bool b)).run P w = .ok (a == b) w := by
    unfold Op.equalIn
    simp only [Sem.run_bind, run_und h, Result.andThen_ok, Sem.run_pure]
  have he' : (Op.equal t (.bool a) (.bool b)).run P w = .ok (a == b) w := he
  have hg : (eqGuard .neq t x y (.bool a) (.bool b)).run P w = .ok () w := by
    unfold eqGuard; rfl
  have hb : (binOp .neq t (.bool a) (.bool b)).run P w = .ok (.bool (a != b)) w := by
    show (do pure (Value.bool (!(← Op.equal t (.bool a) (.bool b)))) : Sem Value).run P w = _
    simp only [Sem.run_bind, he', Result.andThen_ok, Sem.run_pure]
    rfl
  simp only [Go.execOp, hx n ac s, hy n ac s, Sem.run_bind, hg, hb, Result.andThen_ok, Sem.run_pure]
end
theorem zerosL_sized {l : List Arr} (h : ∀ a ∈ l, arrB a = true) : sizedB l (zerosL l) = true := by
  unfold sizedB zerosL
  rw [Bool.and_eq_true, decide_eq_true_eq, allI_iff]
  refine ⟨by simp, fun i hi => ?_⟩
  have ha := arrB_len (h _ (List.getElem_mem hi))
  rw [decide_eq_true_eq, getD_eq l arr0 i hi, List.getD_eq_getElem?_getD, List.getElem?_map, List.getElem?_eq_getElem hi]
  simp only [Option.map_some, Option.getD_some, List.length_replicate]
  omega
theorem valid_parts {p : Prg} (h : validB p = true) : (∀ a ∈ p.shared, arrB a = true) ∧ p.shared.length ≤ 4 ∧ p.tasks.length ≤ 8 ∧ ∀ t ∈ p.tasks, (∀ a ∈ t.arrays, arrB a = true) ∧ t.arrays.length ≤ 4 := by
  rw [validB, Bool.and_eq_true, Bool.and_eq_true, arrsB, Bool.and_eq_true] at h
  obtain ⟨⟨⟨hv1, hv2⟩, hv3⟩, hv4⟩ := h
  refine ⟨fun a ha => List.all_eq_true.1 hv2 a ha, by have := of_decide_eq_true hv1; omega, by have := of_decide_eq_true hv3; omega, fun t ht => ?_⟩
  have htb := List.all_eq_true.1 hv4 t ht
  unfold taskB at htb
  simp only [Bool.and_eq_true] at htb
  have hta := htb.1.1.2
  unfold arrsB at hta
  rw [Bool.and_eq_true] at hta
  exact ⟨fun a ha => List.all_eq_true.1 hta.2 a ha, by have := of_decide_eq_true hta.1; omega⟩
theorem zero_tasks {p : Prg} (h : validB p = true) : tasksB p.tasks (zeroMem p).arrays = true := by
  unfold tasksB zeroMem
  rw [Bool.and_eq_true, decide_eq_true_eq, allI_iff]
  refine ⟨by simp, fun i hi => ?_⟩
  rw [getD_eq p.tasks task0 i hi, List.getD_eq_getElem?_getD, List.getElem?_map, List.getElem?_eq_getElem hi]
  exact zerosL_sized ((valid_parts h).2.2.2 _ (List.getElem_mem hi)).1
theorem zero_fits {p : Prg} (h : validB p = true) : fitsB p (zeroMem p) = true := by
  unfold fitsB
  rw [h, zero_tasks h, show sizedB p.shared (zeroMem p).shared = true from zerosL_sized (valid_parts h).1]
  rfl
theorem fits_ref {p : Prg} (h : validB p = true) (m : Mem) : refFitsB p m = fitsB p m := by
  unfold refFitsB fitsB tasksB
  rw [h]
  by_cases e : p.tasks.length = m.arrays.length
  · simp [e]
  · simp [e, Ne.symm e]
theorem zero_small {p : Prg} (h : validB p = true) : (zeroMem p).shared.length ≤ 4 ∧ (zeroMem p).arrays.length ≤ 8 ∧ (∀ q ∈ (zeroMem p).arrays, q.length ≤ 4) ∧ (∀ l ∈ (zeroMem p).shared, ∀ x ∈ l, x = 0) ∧ (∀ q ∈ (zeroMem p).arrays, ∀ l ∈ q, ∀ x ∈ l, x = 0) ∧ (∀ l ∈ (zeroMem p).shared, l.length ≤ 32) ∧ (∀ q ∈ (zeroMem p).arrays, ∀ l ∈ q, l.length ≤ 32) := by
  obtain ⟨h1, h2, h3, h4⟩ := valid_parts h
  have hz : ∀ (l : List Arr), (∀ a ∈ l, arrB a = true) → ∀ x ∈ zerosL l, (∀ y ∈ x, y = 0) ∧ x.length ≤ 32 := by
    intro l hl x hx
    obtain ⟨a, ha, rfl⟩ := List.mem_map.1 hx
    refine ⟨fun y hy => (List.mem_replicate.1 hy).2, ?_⟩
    have := arrB_len (hl a ha)
    simp only [List.length_replicate]
    omega
  refine ⟨by simpa [zeroMem, zerosL] using h2, by simpa [zeroMem] using h3, ?_, fun l hl => (hz _ h1 l hl).1, ?_, fun l hl => (hz _ h1 l hl).2, ?_⟩
  · intro q hq
    obtain ⟨t, ht, rfl⟩ := List.mem_map.1 hq
    simpa [zerosL] using (h4 t ht).2
  · intro q hq l hl
    obtain ⟨t, ht, rfl⟩ := List.mem_map.1 hq
    exact (hz _ (h4 t ht).1 l hl).1
  · intro q hq l hl
    obtain ⟨t, ht, rfl⟩ := List.mem_map.1 hq
    exact (hz _ (h4 t ht).1 l hl).2
theorem mem_nil (w : World) : MemR w [.slice none 0 0, .slice none 0 0] ⟨[], []⟩ := ⟨_, _, rfl, ⟨none, 0, [], rfl, Nat.le_refl _, rfl, fun i r h => by simp at h, fun i m u h => by simp at h⟩, ⟨none, 0, [], rfl, Nat.le_refl _, rfl, fun i r h => by simp at h, fun i m u h => by simp at h⟩⟩
theorem new_spec (w0 : World) (hT : Tab w0) (p : Prg) (pcs : List Value) (hR : PrgR w0 p pcs) (m : Mem) (mcs : List Value) (hM : MemR w0 mcs m) (hL : MemL m) :
    Spec Tryd.prog w0 3 #[.agg pcs.toArray, .agg mcs.toArray] [] (Is (.bool true)) := by
  have hA := awake_spec w0 hT
  have hG := Great16_spec w0 p pcs hR m mcs hM hL.shared.1 (fun q hq => (hL.each q hq).1) (.slice none 0 0) [] ⟨none, 0, rfl, Nat.le_refl _, fun i r h => by simp at h⟩
  have hFi : Fit p → _ := fun hf => fits_spec w0 hT p pcs hf hR m mcs hM
  have hV : Fit p → _ := fun hf => Valid_spec w0 hT p pcs hf hR
  have hNw : Fit p → _ := fun hf => New_spec w0 hT p pcs hf hR
  have hM0 := hM
  obtain ⟨A1, c1, A2, c2, rfl, hcs, hc2, hr1, hts⟩ := hR.ex
  obtain ⟨u, v, rfl, hu, hv⟩ := hM
  have hRf : Fit p → _ := fun hf => refFits_spec w0 p _ hR hf m u v hu hv
  have hu0 := hu
  have hv0 := hv
  obtain ⟨A3, c3, vs3, rfl, -, -, -, -⟩ := hu
  obtain ⟨A4, c4, vs4, rfl, -, -, -, -⟩ := hv
  refine Spec.enter (args := [_, _]) Tryd.func3 rfl rfl rfl (fun F => ?_)
  refine kAutoB ?_
  (apply RL.boxR; exact kEv; exact rfl; intro b2)
  (apply RL.boxR; exact kEv; exact rfl; intro b3)
  refine kAutoB ?_
  (apply RL.callIs; exact kEv; exact inferInstance; exact kEvl; exact hA; exact rfl)
  refine kAutoB ?_
  (apply RL.callIs; exact kEv; exact inferInstance; exact kEvl; exact hG; exact rfl)
  cases e1 : greatL p m []
  case true =>
    refine kAutoB ?_
    exact XJ.ret1 rfl rfl [] (by exact kGives) ⟨rfl, rfl⟩
  obtain ⟨hf, hs⟩ := small_of_great e1
  refine kAutoB ?_
  (apply RL.callK; exact kEv; exact inferInstance; exact kEvl; exact (Takes.nil _); exact (hNw hf); exact rfl)
  rintro _ N h
  rcases h with ⟨hval, rfl, rfl⟩ | ⟨hval, vA, vS, vs, uss, us, rfl, hLs, hus, rfl⟩
  · refine kAutoB ?_
    (apply RL.alloc; exact rfl; exact rfl; intro b5)
    (apply RL.storeA; exact kEv; exact kEv; exact kTake; exact rfl; exact rfl; exact rfl)
    refine kAutoB ?_
    (apply RL.callIs; exact kEv; exact inferInstance; exact kEvl; exact (hV hf); exact rfl)
    rw [hval]
    refine kAutoB ?_
    (apply RL.build (r := .agg #[.slice none 0 0, .slice none 0 0]); exact rfl; exact kEvl; (intro w; kernel_rfl); exact rfl)
    refine kAutoB ?_
    (apply RL.callIs; exact kEv; exact inferInstance; exact kEvl; exact (Equal_spec w0 _ _ ⟨[], []⟩ ⟨[], []⟩ (mem_nil w0) (mem_nil w0) ⟨by simp [maxLen], by simp, by simp [MatL, maxLen]⟩); exact rfl)
    rw [(eqMem_iff _ _).2 rfl]
    refine kAutoB ?_
    (apply RL.callIs; exact kEv; exact inferInstance; exact kEvl; exact (hFi hf); exact rfl)
    have hno : fitsB p m = false := by unfold fitsB; rw [hval]; rfl
    rw [hno]
    refine kAutoB ?_
    exact XJ.ret1 rfl rfl [] (by (repeat (first | exact Gives.refl _ | apply Gives.drop | apply Gives.skipApp))) ⟨rfl, rfl⟩
  obtain ⟨z1, z2, z3, z4, z5, z6, z7⟩ := zero_small hval
  refine RL.gives (M' := row 27 1 vA (zeroMem p).arrays.length vs :: row 39 1 vS (zeroMem p).shared.length us :: rcel b3 29 [.slice A3 m.arrays.length c3, .slice A4 m.shared.length c4] :: rcel b2 25 [.slice A1 p.shared.length c1, .slice A2 p.tasks.length c2] :: (cubM vs uss (zeroMem p).arrays ++ (innerM us (zeroMem p).shared ++ F))) (by
    unfold cubA matM
    rw [List.append_assoc]
    exact Gives.cons (Takes.here _ _) (Gives.cons (Takes.appR _ (Takes.here _ _)) (Gives.cons (Takes.appR _ (Takes.appR _ (Takes.here _ _))) (Gives.cons (Takes.appR _ (Takes.appR _ (Takes.here _ _))) (Gives.refl _))))) ?_
  refine RL.factS (p := (∃ A c, vA = .slice A (zeroMem p).arrays.length c) ∧ ∃ A c, vS = .slice A (zeroMem p).shared.length c) (fun w h mm sa => ⟨row_shape mm, row_shape mm.tail⟩) ?_
  rintro ⟨⟨Av, cv, rfl⟩, ⟨As, cs', rfl⟩⟩
  refine kAutoB ?_
  (apply RL.alloc; exact rfl; exact rfl; intro b5)
  (apply RL.storeA; exact kEv; exact kEv; exact kTake; exact rfl; exact rfl; exact rfl)
  refine RL.toBase (fun w h mm sa => ?_)
  have hTw := hT.sat sa
  have hRw := hR.up sa.below
  have hMw := hM0.up sa.below
  have hz : MemR w [.slice Av (zeroMem p).arrays.length cv, .slice As (zeroMem p).shared.length cs'] (zeroMem p) := by
    refine ⟨_, _, rfl, cubA_R hLs (Takes.app _ (innerM us (zeroMem p).shared ++ F)) ?_ sa, matM_R hus (Takes.app _ F) ?_ sa⟩
    · unfold cubA
      exact (Gives.drop (Gives.cons (Takes.here _ _) (Gives.drop (Gives.drop (Gives.drop (Gives.refl _)))))).run mm
    · unfold matM
      exact (Gives.drop (Gives.drop (Gives.cons (Takes.here _ _) (Gives.drop (Gives.drop (Gives.skipApp (Gives.refl _))))))).run mm
  have f5 := cel_base (Takes.here _ _) mm sa
  have f3 := rcel_base (Takes.here _ _) mm.tail.tail.tail sa
  have f2 := rcel_base (Takes.here _ _) mm.tail.tail.tail.tail sa
  have f5a := f5.at 0 (0 + 0) rfl rfl
  have f5b := f5.at 1 (0 + 1) rfl rfl
  have f3a := f3.at 0 (0 + 0) rfl rfl
  have f3b := f3.at 1 (0 + 1) rfl rfl
  have f5 := f5
  have f3 := f3
  obtain ⟨_, _, ez, hzC, hzM⟩ := hz
  simp only [List.cons.injEq] at ez
  obtain ⟨rfl, rfl, -⟩ := ez
  have hz : MemR w [.slice Av (zeroMem p).arrays.length cv, .slice As (zeroMem p).shared.length cs'] (zeroMem p) := ⟨_, _, rfl, hzC, hzM⟩
  refine RL.gives (M' := []) (Gives.nil _) ?_
  refine kAutoB ?_
  (apply RL.callIs; exact kEv; exact inferInstance; exact kEvl; exact (Valid_spec w hTw p _ hf hRw); exact rfl)
  rw [hval]
  refine kAutoB ?_
  have q1 : fitsB p (zeroMem p) = true := zero_fits hval
  have q2 : refFitsB p (zeroMem p) = true := by rw [fits_ref hval, q1]
  have q3 : (fitsB p m != refFitsB p m) = false := by rw [fits_ref hval]; exact bne_self_eq_false _
  (refine CJ.draws mixed 29 [] (by exact kGives) (dom_of (by kernel_rfl)) ?_)
  ((first | refine kAjB 0 ?_ | refine kAjS 0 ?_); (first | refine kAjB 1 ?_ | refine kAjS 1 ?_); (first | refine kAjB 2 ?_ | refine kAjS 2 ?_); (first | refine kAjB 3 ?_ | refine kAjS 3 ?_); (first | refine kAjB 4 ?_ | refine kAjS 4 ?_))
  refine AJ.one (kLoud 5 rfl (OpS.call (by exact kEv) inferInstance (by exact kEvl) (Takes.nil _) (fits_spec w hTw p _ hf hRw (zeroMem p) _ hz)) (by rintro _ _ ⟨_, h, _⟩; exact h.elim) ?_)
  rintro _ _ ⟨N, ⟨rfl, rfl⟩, rfl⟩
  refine ⟨by exact kGives, ?_⟩
  rw [q1]
  ((first | refine kAjB 6 ?_ | refine kAjS 6 ?_); (first | refine kAjB 7 ?_ | refine kAjS 7 ?_); (first | refine kAjB 8 ?_ | refine kAjS 8 ?_); (first | refine kAjB 9 ?_ | refine kAjS 9 ?_); (first | refine kAjB 10 ?_ | refine kAjS 10 ?_); (first | refine kAjB 11 ?_ | refine kAjS 11 ?_); (first | refine kAjB 12 ?_ | refine kAjS 12 ?_); (first | refine kAjB 13 ?_ | refine kAjS 13 ?_))
  refine AJ.one (kLoud 14 rfl (OpS.call (by exact kEv) inferInstance (by exact kEvl) (Takes.nil _) (refFits_spec w p _ hRw hf (zeroMem p) _ _ hzC hzM)) (by rintro _ _ ⟨_, h, _⟩; exact h.elim) ?_)
  rintro _ _ ⟨N, ⟨rfl, rfl⟩, rfl⟩
  refine ⟨by exact kGives, ?_⟩
  rw [q2]
  ((first | refine kAjB 15 ?_ | refine kAjS 15 ?_); (first | refine kAjB 16 ?_ | refine kAjS 16 ?_); (first | refine kAjB 17 ?_ | refine kAjS 17 ?_); (first | refine kAjB 18 ?_ | refine kAjS 18 ?_); (first | refine kAjB 19 ?_ | refine kAjS 19 ?_))
  ((first | refine kAjB 21 ?_ | refine kAjS 21 ?_); (first | refine kAjB 22 ?_ | refine kAjS 22 ?_); (first | refine kAjB 23 ?_ | refine kAjS 23 ?_); (first | refine kAjB 24 ?_ | refine kAjS 24 ?_); (first | refine kAjB 25 ?_ | refine kAjS 25 ?_))
  refine AJ.one (kLoud 20 rfl (OpS.call (by exact kEv) inferInstance (by exact kEvl) (Takes.nil _) (fits_spec w hTw p _ hf hRw m _ hMw)) (by rintro _ _ ⟨_, h, _⟩; exact h.elim) ?_)
  rintro _ _ ⟨N, ⟨rfl, rfl⟩, rfl⟩
  refine ⟨by exact kGives, ?_⟩
  refine AJ.one (kLoud 26 rfl (OpS.call (by exact kEv) inferInstance (by exact kEvl) (Takes.nil _) (refFits_spec w p _ hRw hf m _ _ (hu0.up sa.below) (hv0.up sa.below))) (by rintro _ _ ⟨_, h, _⟩; exact h.elim) ?_)
  rintro _ _ ⟨N, ⟨rfl, rfl⟩, rfl⟩
  refine ⟨by exact kGives, ?_⟩
  (apply AJ.pur (i := 27); exact rfl; exact rfl; exact rfl; exact rfl; exact rfl; exact rfl; exact rfl; exact rfl; exact rfl; exact OpP.bneq Tryd.underlying4 kEv kEv)
  rw [q3]
  ((first | refine kAjB 28 ?_ | refine kAjS 28 ?_))
  (refine AJ.done (by kernel_rfl) (by kernel_rfl) rfl (by kernel_rfl) ?_)
  refine kAutoB ?_
  obtain ⟨As', cs2, usS, eS, -, hlS, hrS, hiS⟩ := hzM
  simp only [Value.slice.injEq] at eS
  obtain ⟨rfl, -, rfl⟩ := eS
  have hpS : ∀ x ∈ usS, ∃ l, IntsR w x l ∧ (∀ y ∈ l, y = 0) ∧ l.length ≤ 32 := by
    intro x hx
    obtain ⟨i, hi, rfl⟩ := List.getElem_of_mem hx
    have hi' : i < (zeroMem p).shared.length := by omega
    exact ⟨_, hiS i _ _ (List.getElem?_eq_getElem hi') (List.getElem?_eq_getElem hi), z4 _ (List.getElem_mem hi'), z6 _ (List.getElem_mem hi')⟩
  have hone : ∀ (xs : List Value), (∀ x ∈ xs, ∃ l, IntsR w x l ∧ (∀ y ∈ l, y = 0) ∧ l.length ≤ 32) → ∀ u ∈ xs, u.oneCell' = true := by
    intro xs h u hu
    obtain ⟨l, ⟨A, c, e, -, -⟩, -⟩ := h u hu
    rw [e]
    rfl
  (apply RL.buildSlice; exact rfl; exact kEvl; exact rfl; (intro w; kernel_rfl); exact rfl; intro b71)
  refine RL.gives (row_of_cel (n := 0) (sz := 1) rfl (by simp) (by decide) _) ?_
  refine kAutoB ?_
  refine RL.append (by exact kEv) (by exact kEv) (Takes.here _ _) (fun h _ => base_src hlS (hone _ hpS) hrS) (by simp only [maxLen]; omega) (by omega) rfl (fun A5 c5 => ?_)
  rw [Nat.zero_add, List.nil_append, ← hlS]
  refine kAutoB ?_
  obtain ⟨Av', cv2, eV, -, hatz⟩ := hzC.at_
  simp only [Value.slice.injEq] at eV
  obtain ⟨rfl, -, rfl⟩ := eV
  refine CJ.loop (σ := Nat × Option Addr × Nat × List Value) (fun t => t.1 ≤ (zeroMem p).arrays.length ∧ (∀ x ∈ t.2.2.2, ∃ l, IntsR w x l ∧ (∀ y ∈ l, y = 0) ∧ l.length ≤ 32) ∧ t.2.2.2.length ≤ 4 + 4 * t.1)
    (fun t => [(78, .int .i64 (t.1 : Int)), (77, .int .i64 (zeroMem p).arrays.length), (76, .slice Av (zeroMem p).arrays.length cv), (7, .slice t.2.1 t.2.2.2.length t.2.2.1)])
    (fun t => [row 39 1 (.slice t.2.1 t.2.2.2.length t.2.2.1) t.2.2.2.length t.2.2.2]) (fun t => (zeroMem p).arrays.length - t.1) (0, A5, c5, usS) ⟨Nat.zero_le _, hpS, by simp only; omega⟩ (by exact kEsub) (by exact kGives) ?_
  rintro ⟨i, Ao, co, xs⟩ ⟨hi, hp, hxl⟩
  simp only at hi hp hxl
  refine kAutoB ?_
  cases hlt : decide ((i : Int) < ((zeroMem p).arrays.length : Int))
  case true =>
    have hlt' : i < (zeroMem p).arrays.length := by have := of_decide_eq_true hlt; omega
    obtain ⟨b, o, x, rfl, hb, hm⟩ := hatz i hlt'
    have hq := z3 _ (List.getElem_mem hlt')
    obtain ⟨Ax, cx, usX, rfl, -, hlX, hrX, hiX⟩ := hm
    have hpX : ∀ x ∈ usX, ∃ l, IntsR w x l ∧ (∀ y ∈ l, y = 0) ∧ l.length ≤ 32 := by
      intro x hx
      obtain ⟨k, hk, rfl⟩ := List.getElem_of_mem hx
      have hk' : k < (zeroMem p).arrays[i].length := by omega
      exact ⟨_, hiX k _ _ (List.getElem?_eq_getElem hk') (List.getElem?_eq_getElem hk), z5 _ (List.getElem_mem hlt') _ (List.getElem_mem hk'), z7 _ (List.getElem_mem hlt') _ (List.getElem_mem hk')⟩
    refine kAutoB ?_
    apply RL.pur; (apply OpP.indexAddr; exact kEv; exact kEv; exact hlt'); exact rfl
    apply RL.pur; (apply OpP.load; exact kEv; exact HasAt.base hb); exact rfl
    refine kAutoB ?_
    refine RL.append (by exact kEv) (by exact kEv) (Takes.here _ _) (fun h _ => base_src hlX (hone _ hpX) hrX) (by show xs.length + _ ≤ _; simp only [maxLen]; omega) (by show (xs.length + _) * _ ≤ _; omega) rfl (fun A6 c6 => ?_)
    refine kAutoB ?_
    rw [i64_up i (by omega)]
    refine XJ.round (i + 1, A6, c6, xs ++ usX) ⟨by simp only; omega, ?_, by simp only [List.length_append]; omega⟩ (by simp only; omega) (by simp only [List.length_append, hlX]; exact kEsub) (by simp only [List.length_append, hlX]; exact kGives)
    intro x hx
    rcases List.mem_append.1 hx with hx | hx
    · exact hp x hx
    · exact hpX x hx
  have hge : i = (zeroMem p).arrays.length := by have := of_decide_eq_false hlt; omega
  refine kAutoB ?_
  refine CJ.loop (σ := Nat) (fun j => j ≤ xs.length) (fun j => [(88, .int .i64 (j : Int)), (87, .int .i64 xs.length), (86, .slice Ao xs.length co)])
    (fun _ => [row 39 1 (.slice Ao xs.length co) xs.length xs]) (fun j => xs.length - j) 0 (Nat.zero_le _) (by exact kEsub) (by exact kGives) ?_
  intro j hj
  refine kAutoB ?_
  cases hjt : decide ((j : Int) < (xs.length : Int))
  case false =>
    refine kAutoB ?_
    exact XJ.ret1B mm sa rfl rfl (by (repeat (first | exact Gives.refl _ | apply Gives.drop | apply Gives.skipApp))) ⟨rfl, rfl⟩
  have hjt' : j < xs.length := by have := of_decide_eq_true hjt; omega
  obtain ⟨l, hIl, hl0, hl32⟩ := hp _ (List.getElem_mem hjt')
  have hxj : xs[j]? = some xs[j] := List.getElem?_eq_getElem hjt'
  obtain ⟨Al, cl, el, hcl, hrl⟩ := hIl
  rw [el] at hxj
  refine CJ.factS (p := ∃ b c, Value.slice Ao xs.length co = .slice (some ⟨b, 0, none⟩) xs.length c) (fun w h mm sa => row_ptr (Takes.here _ _) mm (by omega)) ?_
  rintro ⟨bI, cI, eI⟩
  simp only [Value.slice.injEq] at eI
  obtain ⟨rfl, -, -⟩ := eI
  refine kAutoB ?_
  apply RL.pur; (apply OpP.indexAddr; exact kEv; exact kEv; exact hjt'); exact rfl
  apply RL.pur; (apply OpP.load; exact kEv; exact row_at (Takes.here _ _) hxj); exact rfl
  refine kAutoB ?_
  refine CJ.loop (σ := Nat) (fun k => k ≤ l.length) (fun k => [(94, .int .i64 (k : Int)), (93, .int .i64 l.length), (92, .slice Al l.length cl), (88, .int .i64 (j : Int)), (87, .int .i64 xs.length), (86, .slice (some ⟨bI, 0, none⟩) xs.length co)])
    (fun _ => [row 39 1 (.slice (some ⟨bI, 0, none⟩) xs.length co) xs.length xs]) (fun k => l.length - k) 0 (Nat.zero_le _) (by exact kEsub) (by exact kGives) ?_
  intro k hk
  refine kAutoB ?_
  cases hkt : decide ((k : Int) < (l.length : Int))
  case false =>
    refine kAutoB ?_
    rw [i64_up j (by have := z1; have := z2; omega)]
    exact XJ.round (j + 1) (by omega) (by omega) (by exact kEsub) (by exact kGives)
  have hkt' : k < l.length := by have := of_decide_eq_true hkt; omega
  obtain ⟨b', o', e', -, hb'⟩ := hrl.at_ k (by simpa using hkt')
  subst e'
  simp only [List.getElem_map] at hb'
  rw [hl0 _ (List.getElem_mem hkt')] at hb'
  refine kAutoB ?_
  apply RL.pur; (apply OpP.indexAddr; exact kEv; exact kEv; exact hkt'); exact rfl
  apply RL.pur; (apply OpP.load; exact kEv; exact HasAt.base hb'); exact rfl
  refine kAutoB ?_
  rw [i64_up k (by omega)]
  exact XJ.round (k + 1) (by omega) (by omega) (by exact kEsub) (by exact kGives)
end Go.Proofs.YtgmapenlgammfaaDoor

/- InterpNew: the card. -/
namespace Go.Proofs.YtgmapenlgammfaaDoor.interpNew
open Go Go.ChangeShapes Go.WideShapes Go.ChangeAt Go.RowKit
theorem contract (H : Type) (enc : TypeId × Value → H) (W : World) (base : Nat) (args : Array Value) (ds gs : List (DataW H)) (before : List MemPlace)
    (hval : ∀ (j : Nat) t v, Tryd.f3.params[j]? = some t → args[j]? = some v → Value.okWide Tryd.prog W .any base t v)
    (hW : DataW.Whole enc Tryd.prog Tryd.f3.params.toList Rows.interpNewSpec.vars false W args.toList ds gs before) (hL : laidMetH Tryd.prog Rows.interpNewRow.laid W) :
    Calls Tryd.prog 3 args W fun e W' => ∃ v, e = .returned v ∧ Rows.interpNewSpec.post enc Tryd.prog Tryd.f3 false true false false W args v W' := by
  have hW' := hW
  obtain ⟨p, q, hA, hV, rfl, hfz, hnd⟩ := hW
  rw [Tryd.params3] at hA hval
  obtain ⟨v0, vs0, d0, ds0, p'0, q0, hargs, rfl, rfl, h0, r0⟩ := trodAll_cons hA
  obtain ⟨v1, vs1, d1, ds1, p'1, q1, rfl, rfl, rfl, h1, r1⟩ := trodAll_cons r0
  obtain ⟨rfl, rfl, rfl⟩ := trodAll_nil r1
  obtain rfl : args = #[v0, v1] := by cases args; simp_all
  obtain ⟨cs0, p0, rfl, hR0, hS0⟩ := arg_program (hval 0 _ v0 rfl rfl) h0
  obtain ⟨cs1, m1, rfl, hM1, h321, hL1⟩ := arg_memory (hval 1 _ v1 rfl rfl) h1
  refine law_contract rfl (by kernel_rfl) (by rw [Tryd.params3]; decide +kernel) ?_ hW' (new_spec W (tab_of hL) p0 cs0 hR0 m1 cs1 hM1 hL1).walk
  intro ds hl
  rw [Tryd.params3] at hl
  match ds, hl with
  | [d1, d2], _ => rfl
/-- The witness's arguments. -/
def wargs : Array Value := #[.agg #[.slice none 0 0, .slice none 0 0], .agg #[.slice none 0 0, .slice none 0 0]]
theorem reads (os : Os) {H : Type} (enc : TypeId × Value → H) : ∃ places, DataW.whole enc Tryd.prog ((World.laidAll Tryd.prog os Rows.interpNewRow.laid).forCall (fun _ _ => 0) ⟨#[], wargs, []⟩).memory Tryd.f3.params.toList Rows.interpNewSpec.vars false wargs.toList 8 = some ([.agg [.nil, .nil], .agg [.nil, .nil]], [], places) :=
  ⟨[], by kernel_rfl⟩
theorem lifted (os : Os) (started : os.Started) (H : Type) (enc : TypeId × Value → H) (F : Stop.Interp) :
    ReturnsInHanded {} Tryd.checked os 3 .any ((OpenSpec.ofChange Rows.interpNewSpec).preRow enc Tryd.prog Tryd.f3 Rows.interpNewRow.domain false Rows.interpNewRow.laid) (((OpenSpec.ofChange Rows.interpNewSpec).at F).post enc Tryd.prog Tryd.f3 false true false false) := by
  obtain ⟨places, hx⟩ := reads os enc
  refine returnsInHanded_of_row (C := Tryd.checked) (s := OpenSpec.ofChange Rows.interpNewSpec) noKnob started (by kernel_rfl) Tryd.func3
    (witness wargs (by kernel_rfl) (OpenSpec.preRow_of_cond 8 hx (by kernel_rfl) (fun k hk => by cases hk) (by kernel_rfl) (laid_met wargs))) ?_
  intro W base args ds gs before hval hW _ _ _ hL _ _
  exact contract H enc W base args ds gs before hval hW hL
theorem said : Rows.InterpNewSaid :=
  OpenClaim.holds_of_cond 3 Tryd.f3 rfl rfl rfl rfl rfl rfl rfl ⟨rfl, rfl, rfl, rfl, rfl⟩ rfl rfl rfl rfl rfl (by kernel_rfl) Tryd.func3 (by kernel_rfl)
    (of_decide_eq_true (by kernel_rfl)) (by unfold Func.isWrapper; first | (rw [if_pos (by decide +kernel)]; kernel_rfl) | (rw [if_neg (by decide +kernel)]; exact ⟨rfl, rfl⟩))
    (fun os started H enc _ F => by rw [OpenClaim.pre_eq_preRow]; exact lifted os started H enc F)
theorem plain (f : FuncId) (fn : Func) (hf : Tryd.pinned.checked.prog.funcNamed "ontime/ontimelaw16.InterpNew" = some f) (hfn : Tryd.pinned.checked.prog.funcs[f]? = some fn) :
    true = Tryd.pinned.checked.prog.looks [] ∧ ∀ (j : Nat) t, fn.params[j]? = some t → Tryd.pinned.checked.prog.wantsStandIn t = false := by
  obtain rfl : f = 3 := Option.some.inj ((show Tryd.prog.funcNamed "ontime/ontimelaw16.InterpNew" = some 3 by kernel_rfl).symm.trans hf) |>.symm
  obtain rfl : fn = Tryd.f3 := (Option.some.inj (Tryd.func3.symm.trans hfn)).symm
  refine ⟨by kernel_rfl, fun j t ht => ?_⟩
  have h : (Tryd.f3.params.toList.all fun t => !Tryd.prog.wantsStandIn t) = true := by kernel_rfl
  have h' : (!Tryd.prog.wantsStandIn t) = true := List.all_eq_true.1 h t (by simpa using Array.mem_of_getElem? ht)
  exact (show Tryd.prog.wantsStandIn t = false by simpa using h')
/-- ████ THE CARD ████ -/
theorem card : Rows.InterpNewCardSaid :=
  Claim7.holds_tied_plain_at .later [] _ _ _ _ said (fun _ h => by cases h) (by kernel_rfl) (fun _ h => by cases h) interpNew_row_tie rfl ⟨rfl, rfl⟩ (by kernel_rfl) rfl plain (by kernel_rfl)
end Go.Proofs.YtgmapenlgammfaaDoor.interpNew
