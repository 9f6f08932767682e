import Derived.Test.YtgmapenlgammfaaGreatDoorGE
import Derived.Test.YtgmapenlgammfaaGreatDoorGF
set_option linter.all false
/- The law InterpFuel: the walk. -/
namespace Go.Proofs.YtgmapenlgammfaaGreatDoor
open Go
section
attribute [local semireducible] Ev OpP
variable {P : Program} {w0 : World} {L : Env} {M : List HProp} {d : Option Tmp} {T : TypeId} {p : String} {af : Array Edge} {g : Option (Nat × Bool)}
/-- s[:k] -/
theorem OpP.sliceTo {t : TypeId} {x y : Operand} {E sz : Nat} [q : SliceT P t E sz] {A : Option Addr} {l c k : Nat} (hx : Ev L x (.slice A l c)) (hy : Ev L y (.int .i64 (k : Int))) (hc : k ≤ c) : OpP P w0 L M ⟨d, .slice t x none (some y) none, T, p, af, g⟩ (.slice A k c) := fun n a w h s _ _ => by
  have h0 : ∀ ad : Addr, ad.add 0 = ad := fun ad => by unfold Addr.add; split <;> simp_all
  have h1 : (k : Int) ≤ (c : Int) := by omega
  simp [execOp, hx n a s, hy n a s, Instr.sliceAt, Instr.slice, Instr.sliceBounds, Instr.sliceBound, run_und q.und, asIntOf, h1, q.sz, h0]
  omega
/-- s[k:] -/
theorem OpP.sliceFrom {t : TypeId} {x y : Operand} {E sz : Nat} [q : SliceT P t E sz] {A : Option Addr} {l c k : Nat} (hx : Ev L x (.slice A l c)) (hy : Ev L y (.int .i64 (k : Int))) (hl : k ≤ l) : OpP P w0 L M ⟨d, .slice t x (some y) none none, T, p, af, g⟩ (.slice (if c = k then A else A.map fun a => a.add (k * sz)) (l - k) (c - k)) := fun n a w h s _ _ => by
  have h1 : (k : Int) ≤ (l : Int) := by omega
  simp [execOp, hx n a s, hy n a s, Instr.sliceAt, Instr.slice, Instr.sliceBounds, Instr.sliceBound, run_und q.und, asIntOf, h1, q.sz]
  omega
end
theorem i64_id {x : Int} (h0 : 0 ≤ x) (h1 : x ≤ 65535) : IntKind.i64.wrap x = x := by
  simp [IntKind.wrap, IntKind.min, IntKind.max, IntKind.signed, IntKind.bits]
  omega
theorem ResR.outs {w : World} {u v o : Value} {cs : List Value} {r : JobRes} (h : ResR w (u :: v :: o :: cs) r) : OutsR w o r.out := by
  obtain ⟨_, _, _, e, _, _, h⟩ := h
  simp only [List.cons.injEq] at e
  obtain ⟨_, _, rfl, _⟩ := e
  exact h
theorem OutsR.take {w : World} {A : Option Addr} {n c : Nat} {l : List (Int × Int)} (h : OutsR w (.slice A n c) l) (k : Nat) (hk : k ≤ n) : k ≤ c ∧ OutsR w (.slice A k c) (l.take k) := by
  obtain ⟨A', c', e, hc, hr⟩ := h
  simp only [Value.slice.injEq] at e
  obtain ⟨rfl, rfl, rfl⟩ := e
  refine ⟨by omega, A, c, by rw [List.length_take, Nat.min_eq_left hk], by simp only [List.length_take]; omega, ?_⟩
  intro i x e
  refine hr i x ?_
  rw [List.map_take, List.getElem?_take] at e
  split at e
  · exact e
  · cases e
theorem fuel_spec (w0 : World) (hT : Tab w0) (p : Prg) (pcs : List Value) (hR : PrgR w0 p pcs) (m : Mem) (mcs : List Value) (hM : MemR w0 mcs m) (h32 : Mem32 m) (hL : MemL m) (inV : Value) (inp : List Int) (hin : IntsR w0 inV inp) (hi32 : ∀ x ∈ inp, I32 x) (t less : Int) (hl0 : 0 ≤ less) (hl1 : less ≤ 65535) :
    Spec Tryz.prog w0 4 #[.agg pcs.toArray, .int .i64 t, .agg mcs.toArray, inV, .int .u16 less] [] (Is (.bool true)) := by
  have hA := awake_spec w0 hT
  have hG := Great16_spec w0 p pcs hR m mcs hM hL.shared.1 (fun q hq => (hL.each q hq).1) inV inp hin
  have hJ : ∀ fuel : Int, Fit p → Small m inp → fuel ≤ 1000000 → _ := fun fuel hf hs hfu => Job_spec w0 hT p pcs hf hR t m mcs hM h32 inV inp hin hi32 (by have := hs.inp; omega) fuel hfu
  have hRun : Fit p → _ := fun hf => runnable_spec w0 hT p pcs hR hf m mcs hM t
  obtain ⟨A1, c1, A2, c2, rfl, -, -, -, -⟩ := hR.ex
  obtain ⟨u, v, rfl, hu, hv⟩ := hM
  obtain ⟨A3, c3, vs3, rfl, -, -, -, -⟩ := hu
  obtain ⟨A4, c4, vs4, rfl, -, -, -, -⟩ := hv
  refine Spec.enter (args := [_, _, _, _, _]) Tryz.func4 rfl rfl rfl (fun F => ?_)
  refine kAutoB ?_
  (apply RL.boxR; exact kEv; exact rfl; intro b5)
  (apply RL.boxR; exact kEv; exact rfl; intro b7)
  refine kAutoB ?_
  (apply RL.callIs; exact kEv; exact inferInstance; exact kEvl; exact hA; exact rfl)
  refine kAutoB ?_
  (apply RL.callIs; exact kEv; exact inferInstance; exact kEvl; exact hG; exact rfl)
  cases e1 : greatL p m inp
  case true =>
    refine kAutoB ?_
    exact XJ.ret1 rfl rfl [] (by exact kGives) ⟨rfl, rfl⟩
  obtain ⟨hf, hs⟩ := small_of_great e1
  refine kAutoB ?_
  (apply RL.callIs; exact kEv; exact inferInstance; exact kEvl; exact hRun hf; exact rfl)
  cases e2 : runB p t m
  case false =>
    refine kAutoB ?_
    exact XJ.ret1 rfl rfl [] (by exact kGives) ⟨rfl, rfl⟩
  have hr := runs_of e2
  refine kAutoB ?_
  (apply RL.callK; exact kEv; exact inferInstance; exact kEvl; exact (Takes.nil _); exact (hJ 3000 hf hs (by omega)); exact rfl)
  rintro _ N1 ⟨rcs, rfl, hrc⟩
  (apply RL.alloc; exact rfl; exact rfl; intro b11)
  generalize hrr : jobAll p t m inp 3000 = r at hrc
  refine RL.factS (p := ∃ u v A c, rcs = [u, v, .slice A r.out.length c, .int .i64 r.read, .int .i64 r.steps, .int .i64 r.err] ∧ u.oneCell' = true ∧ v.oneCell' = true) (fun w h mm sa => (hrc _ w h _ (mm.tail) sa).cells) ?_
  rintro ⟨u1, u2, A5, c5, rfl, ho1, ho2⟩
  (apply RL.storeA; exact kEv; exact kEv; exact Takes.here _ _; exact rfl; exact (by simp only [List.all_cons, List.all_nil, ho1, ho2]; rfl); exact rfl)
  refine kAutoB ?_
  have hsz := hr.sizes hf h32 hi32 hs 3000 (by omega)
  rw [hrr] at hsz
  refine CJ.gives (M' := cel b11 37 [u1, u2, .slice A5 r.out.length c5, .int .i64 r.read, .int .i64 r.steps, .int .i64 r.err] :: rcel b7 29 _ :: rcel b5 25 _ :: (N1 ++ F)) (Gives.cons (Takes.here _ _) (Gives.cons (Takes.appR _ (Takes.here _ _)) (Gives.cons (Takes.appR _ (Takes.here _ _)) (Gives.refl _)))) ?_
  cases h13 : (r.err == 13)
  case true =>
    have h13' : r.err = 13 := by simpa using h13
    have hst : (r.steps : Int) = 3000 := by rw [← hrr] at h13' ⊢; exact hr.out inp (by omega) h13'
    refine kAutoB ?_
    refine XJ.ret1 rfl rfl [] (by (repeat (first | exact Gives.refl _ | apply Gives.drop | apply Gives.skipApp))) ⟨?_, rfl⟩
    rw [hst]; rfl
  have h13' : (jobAll p t m inp 3000).err ≠ 13 := by rw [hrr]; simpa using h13
  have hst : (r.steps : Int) ≤ 1000000 := by omega
  refine kAutoB ?_
  (refine CJ.draws mixed 10 [cel b11 _ _, rcel b7 _ _, rcel b5 _ _] (by exact kGives) (dom_of (by kernel_rfl)) ?_)
  ((first | refine kAjB 0 ?_ | refine kAjS 0 ?_); (first | refine kAjB 1 ?_ | refine kAjS 1 ?_); (first | refine kAjB 2 ?_ | refine kAjS 2 ?_); (first | refine kAjB 3 ?_ | refine kAjS 3 ?_); (first | refine kAjB 4 ?_ | refine kAjS 4 ?_); (first | refine kAjB 5 ?_ | refine kAjS 5 ?_); (first | refine kAjB 6 ?_ | refine kAjS 6 ?_))
  (refine AJ.loud1 (i := 7) (by kernel_rfl) (by kernel_rfl) rfl (by kernel_rfl) (by kernel_rfl) rfl rfl rfl rfl rfl rfl (OpS.callO (hJ r.steps hf hs hst) (by exact kEv) inferInstance (by exact kEvl) (by exact rfl) (Takes.nil _)) ?_ ?_)
  rotate_left
  · rintro _ _ ⟨_, h, _⟩; exact h.elim
  rintro _ _ ⟨N2, ⟨scs, rfl, hsc⟩, rfl⟩
  refine ⟨by (repeat (first | exact Gives.nil _ | (apply Gives.cons; (focus (exact Takes.here _ _))) | apply Gives.drop | apply Gives.skipApp)), ?_⟩
  rw [hr.enough inp h13' (by rw [hrr]; exact Int.le_refl _), hrr] at hsc
  (refine AJ.loud1 (i := 8) (by kernel_rfl) (by kernel_rfl) rfl (by kernel_rfl) (by kernel_rfl) rfl rfl rfl rfl rfl rfl (OpS.callAll (fun w h mm sa => same_spec w _ scs r r (hrc _ w h _ (mm.skip.tail.tail.tail) sa) (hsc _ w h _ mm sa) hsz.1 (by simp only [maxLen]; omega) true) (by exact kEv) inferInstance (by exact kEvl) (by exact rfl)) ?_ ?_)
  rotate_left
  · rintro _ _ h; exact h.elim
  rintro _ _ ⟨N3, ⟨rfl, rfl⟩, rfl⟩
  refine ⟨by (repeat (first | exact Gives.nil _ | (apply Gives.cons; (focus (exact Takes.here _ _))) | apply Gives.drop | apply Gives.skipApp)), ?_⟩
  rw [sameB_refl]
  ((first | refine kAjB 9 ?_ | refine kAjS 9 ?_))
  (refine AJ.done (by kernel_rfl) (by kernel_rfl) rfl (by kernel_rfl) ?_)
  refine XJ.gives (M' := cel b11 37 _ :: rcel b7 29 _ :: rcel b5 25 _ :: (N1 ++ F)) (Gives.skipApp (Gives.skipApp (Gives.refl _))) ?_
  refine kAutoB ?_
  cases hst0 : ((r.steps : Int) == 0)
  case true =>
    refine kAutoB ?_
    exact XJ.ret1 rfl rfl [] (by (repeat (first | exact Gives.refl _ | apply Gives.drop | apply Gives.skipApp))) ⟨rfl, rfl⟩
  have hst0' : (r.steps : Int) ≠ 0 := by simpa using hst0
  refine kAutoB ?_
  apply RL.pur; (apply OpP.rem; exact kEv; exact kEv; exact hst0'); exact rfl
  refine kAutoB ?_
  have hk0 : 0 ≤ (IntKind.i64.wrap less).tmod (r.steps : Int) := by rw [i64_id (by omega) (by omega)]; exact Int.tmod_nonneg _ hl0
  have hk1 : (IntKind.i64.wrap less).tmod (r.steps : Int) < (r.steps : Int) := by rw [i64_id (by omega) (by omega)]; exact Int.tmod_lt_of_pos _ (by omega)
  generalize hk : (IntKind.i64.wrap less).tmod (r.steps : Int) = k at hk0 hk1
  (apply RL.callK; exact kEv; exact inferInstance; exact kEvl; exact (Takes.nil _); exact (hJ k hf hs (by omega)); exact rfl)
  rintro _ N4 ⟨qcs, rfl, hqc⟩
  have hless := hr.less inp h13' hk0 (by rw [hrr]; exact hk1)
  rw [hrr] at hless
  obtain ⟨g1, g2, g3, g4⟩ := hless
  have hszs := hr.sizes hf h32 hi32 hs k (by omega)
  generalize hss : jobAll p t m inp k = s at hqc g1 g2 g3 g4 hszs
  (apply RL.alloc; exact rfl; exact rfl; intro b13)
  refine RL.factS (p := ∃ u v A c, qcs = [u, v, .slice A s.out.length c, .int .i64 s.read, .int .i64 s.steps, .int .i64 s.err] ∧ u.oneCell' = true ∧ v.oneCell' = true) (fun w h mm sa => (hqc _ w h _ (mm.tail) sa).cells) ?_
  rintro ⟨u3, u4, A6, c6, rfl, ho3, ho4⟩
  (apply RL.storeA; exact kEv; exact kEv; exact Takes.here _ _; exact rfl; exact (by simp only [List.all_cons, List.all_nil, ho3, ho4]; rfl); exact rfl)
  refine kAutoB ?_
  refine CJ.gives (M' := cel b13 37 [u3, u4, .slice A6 s.out.length c6, .int .i64 s.read, .int .i64 s.steps, .int .i64 s.err] :: cel b11 37 _ :: rcel b7 29 _ :: rcel b5 25 _ :: (N4 ++ (N1 ++ F))) (Gives.cons (Takes.here _ _) (Gives.cons (Takes.appR _ (Takes.here _ _)) (Gives.cons (Takes.appR _ (Takes.here _ _)) (Gives.cons (Takes.appR _ (Takes.here _ _)) (Gives.refl _))))) ?_
  have hc5 : s.out.length ≤ r.out.length := g4.length_le
  have hout : decide (s.out = r.out.take s.out.length) = true := decide_eq_true (List.prefix_iff_eq_take.1 g4)
  refine CJ.factS (p := s.out.length ≤ c5) (fun w h mm sa => ((hrc _ w h _ (mm.tail.tail.tail.tail.skip) sa).outs.take s.out.length hc5).1) ?_
  intro hk5
  rw [g1]
  subst g2
  refine CJ.env (L' := [(13, .pointer (some ⟨b13, 0, none⟩)), (12, .int .i64 (s.steps : Int)), (11, .pointer (some ⟨b11, 0, none⟩))]) (by exact kEsub) ?_
  (refine CJ.draws mixed 37 [cel b13 _ _, cel b11 _ _] (by exact kGives) (dom_of (by kernel_rfl)) ?_)
  ((first | refine kAjB 0 ?_ | refine kAjS 0 ?_); (first | refine kAjB 1 ?_ | refine kAjS 1 ?_); (first | refine kAjB 2 ?_ | refine kAjS 2 ?_); (first | refine kAjB 3 ?_ | refine kAjS 3 ?_))
  rw [show ((13 : Int) == 13) = true from rfl]
  ((first | refine kAjB 4 ?_ | refine kAjS 4 ?_); (first | refine kAjB 5 ?_ | refine kAjS 5 ?_); (first | refine kAjB 6 ?_ | refine kAjS 6 ?_); (first | refine kAjB 7 ?_ | refine kAjS 7 ?_))
  rw [beq_self_eq_true]
  ((first | refine kAjB 8 ?_ | refine kAjS 8 ?_); (first | refine kAjB 9 ?_ | refine kAjS 9 ?_); (first | refine kAjB 10 ?_ | refine kAjS 10 ?_); (first | refine kAjB 11 ?_ | refine kAjS 11 ?_); (first | refine kAjB 12 ?_ | refine kAjS 12 ?_); (first | refine kAjB 13 ?_ | refine kAjS 13 ?_); (first | refine kAjB 14 ?_ | refine kAjS 14 ?_))
  rw [decide_eq_true (show (s.read : Int) ≤ (r.read : Int) by omega)]
  ((first | refine kAjB 15 ?_ | refine kAjS 15 ?_); (first | refine kAjB 16 ?_ | refine kAjS 16 ?_); (first | refine kAjB 17 ?_ | refine kAjS 17 ?_); (first | refine kAjB 18 ?_ | refine kAjS 18 ?_); (first | refine kAjB 19 ?_ | refine kAjS 19 ?_); (first | refine kAjB 20 ?_ | refine kAjS 20 ?_); (first | refine kAjB 21 ?_ | refine kAjS 21 ?_); (first | refine kAjB 22 ?_ | refine kAjS 22 ?_); (first | refine kAjB 23 ?_ | refine kAjS 23 ?_))
  rw [decide_eq_true (show (s.out.length : Int) ≤ (r.out.length : Int) by omega)]
  ((first | refine kAjB 24 ?_ | refine kAjS 24 ?_); (first | refine kAjB 25 ?_ | refine kAjS 25 ?_); (first | refine kAjB 26 ?_ | refine kAjS 26 ?_); (first | refine kAjB 27 ?_ | refine kAjS 27 ?_); (first | refine kAjB 28 ?_ | refine kAjS 28 ?_); (first | refine kAjB 29 ?_ | refine kAjS 29 ?_); (first | refine kAjB 30 ?_ | refine kAjS 30 ?_); (first | refine kAjB 31 ?_ | refine kAjS 31 ?_); (first | refine kAjB 32 ?_ | refine kAjS 32 ?_))
  (apply AJ.pur (i := 33); exact rfl; exact rfl; exact rfl; exact rfl; exact rfl; exact rfl; exact rfl; exact rfl; exact rfl; exact OpP.sliceTo kEv kEv hk5)
  refine AJ.loudG (i := 34) (by kernel_rfl) (by kernel_rfl) rfl (by kernel_rfl) (by kernel_rfl) rfl rfl rfl rfl rfl rfl rfl (OpS.callAll (fun w h mm sa => outputs_spec w _ _ s.out (r.out.take s.out.length) (hqc _ w h _ (mm.tail.tail.tail.tail) sa).outs ((hrc _ w h _ (mm.tail.tail.tail.tail.skip) sa).outs.take s.out.length hc5).2 (by simp only [maxLen]; omega)) (by exact kEv) inferInstance (by exact kEvl) (by exact rfl)) ?_ ?_
  rotate_left
  · rintro _ _ h; exact h.elim
  rintro _ _ ⟨N5, ⟨rfl, rfl⟩, rfl⟩
  refine ⟨by (repeat (first | exact Gives.nil _ | (apply Gives.cons; (focus (exact Takes.here _ _))) | apply Gives.drop | apply Gives.skipApp)), ?_⟩
  rw [hout]
  ((first | refine kAjB 35 ?_ | refine kAjS 35 ?_); (first | refine kAjB 36 ?_ | refine kAjS 36 ?_))
  (refine AJ.done (by kernel_rfl) (by kernel_rfl) rfl (by kernel_rfl) ?_)
  refine kAutoB ?_
  exact XJ.ret1 rfl rfl [] (by (repeat (first | exact Gives.refl _ | apply Gives.drop | apply Gives.skipApp))) ⟨rfl, rfl⟩
end Go.Proofs.YtgmapenlgammfaaGreatDoor

/- The law InterpInput: the walk. -/
namespace Go.Proofs.YtgmapenlgammfaaGreatDoor
open Go
theorem getD_zeros (l : List Int) (i : Nat) : l.getD i 0 = (l ++ [0, 0, 0]).getD i 0 := by
  simp only [List.getD_eq_getElem?_getD, List.getElem?_append]
  split
  · rfl
  · rename_i h
    rw [List.getElem?_eq_none (by omega)]
    generalize i - l.length = j
    rcases j with _ | _ | _ | j <;> rfl
theorem getD_more (l q : List Int) {n i : Nat} (hi : i < n) (hn : n ≤ l.length) : l.getD i 0 = (l.take n ++ q).getD i 0 := by
  simp only [List.getD_eq_getElem?_getD, List.getElem?_append]
  rw [if_pos (by simp; omega), List.getElem?_take, if_pos hi]
theorem IntsR.take {w : World} {A : Option Addr} {n c : Nat} {l : List Int} (h : IntsR w (.slice A n c) l) (k : Nat) (hk : k ≤ n) : k ≤ c ∧ n = l.length ∧ RowsB w 1 A (((l.take k).map intV).map fun u => [u]) := by
  obtain ⟨A', c', e, hc, hr⟩ := h
  simp only [Value.slice.injEq] at e
  obtain ⟨rfl, rfl, rfl⟩ := e
  refine ⟨by omega, rfl, ?_⟩
  intro i x e
  refine hr i x ?_
  rw [List.map_take, List.map_take, List.getElem?_take] at e
  split at e
  · exact e
  · cases e
theorem mem_zeros {l : List Int} (h : ∀ x ∈ l, I32 x) : ∀ x ∈ l ++ [0, 0, 0], I32 x := fun x hx => by
  rcases List.mem_append.1 hx with hx | hx
  · exact h x hx
  · simp at hx; subst hx; exact .zero
theorem input_spec (w0 : World) (hT : Tab w0) (p : Prg) (pcs : List Value) (hR : PrgR w0 p pcs) (m : Mem) (mcs : List Value) (hM : MemR w0 mcs m) (h32 : Mem32 m) (hL : MemL m) (inV : Value) (inp : List Int) (hin : IntsR w0 inV inp) (hi32 : ∀ x ∈ inp, I32 x) (moV : Value) (more : List Int) (hmo : IntsR w0 moV more) (hm32 : ∀ x ∈ more, I32 x) (t : Int) :
    Spec Tryz.prog w0 7 #[.agg pcs.toArray, .int .i64 t, .agg mcs.toArray, inV, moV] [] (Is (.bool true)) := by
  have hA := awake_spec w0 hT
  have hG := Great16_spec w0 p pcs hR m mcs hM hL.shared.1 (fun q hq => (hL.each q hq).1) inV inp hin
  have hG2 := Great16_spec w0 p pcs hR m mcs hM hL.shared.1 (fun q hq => (hL.each q hq).1) moV more hmo
  have hJ : Fit p → Small m inp → _ := fun hf hs => Job_spec w0 hT p pcs hf hR t m mcs hM h32 inV inp hin hi32 (by have := hs.inp; omega) 3000 (by omega)
  have hRun : Fit p → _ := fun hf => runnable_spec w0 hT p pcs hR hf m mcs hM t
  have hM0 := hM
  have hin0 := hin
  have hmo0 := hmo
  obtain ⟨A1, c1, A2, c2, rfl, -, -, -, -⟩ := hR.ex
  obtain ⟨u, v, rfl, hu, hv⟩ := hM
  obtain ⟨A3, c3, vs3, rfl, -, -, -, -⟩ := hu
  obtain ⟨A4, c4, vs4, rfl, -, -, -, -⟩ := hv
  obtain ⟨A5, c5, rfl, hc5, hr5⟩ := hin
  obtain ⟨A6, c6, rfl, hc6, hr6⟩ := hmo
  refine Spec.enter (args := [_, _, _, _, _]) Tryz.func7 rfl rfl rfl (fun F => ?_)
  refine kAutoB ?_
  (apply RL.boxR; exact kEv; exact rfl; intro b5)
  (apply RL.boxR; exact kEv; exact rfl; intro b7)
  refine kAutoB ?_
  (apply RL.callIs; exact kEv; exact inferInstance; exact kEvl; exact hA; exact rfl)
  refine kAutoB ?_
  (apply RL.callIs; exact kEv; exact inferInstance; exact kEvl; exact hG; exact rfl)
  cases e1 : greatL p m inp
  case true =>
    refine kAutoB ?_
    exact XJ.ret1 rfl rfl [] (by exact kGives) ⟨rfl, rfl⟩
  obtain ⟨hf, hs⟩ := small_of_great e1
  refine kAutoB ?_
  (apply RL.callIs; exact kEv; exact inferInstance; exact kEvl; exact hG2; exact rfl)
  cases e3 : greatL p m more
  case true =>
    refine kAutoB ?_
    exact XJ.ret1 rfl rfl [] (by exact kGives) ⟨rfl, rfl⟩
  have hs2 := (small_of_great e3).2
  have hil := hs.inp
  have hml := hs2.inp
  refine kAutoB ?_
  (apply RL.callIs; exact kEv; exact inferInstance; exact kEvl; exact hRun hf; exact rfl)
  cases e2 : runB p t m
  case false =>
    refine kAutoB ?_
    exact XJ.ret1 rfl rfl [] (by exact kGives) ⟨rfl, rfl⟩
  have hr := runs_of e2
  refine kAutoB ?_
  (apply RL.callK; exact kEv; exact inferInstance; exact kEvl; exact (Takes.nil _); exact (hJ hf hs); exact rfl)
  rintro _ N1 ⟨rcs, rfl, hrc⟩
  (apply RL.alloc; exact rfl; exact rfl; intro b11)
  generalize hrr : jobAll p t m inp 3000 = r at hrc
  refine RL.factS (p := ∃ u v A c, rcs = [u, v, .slice A r.out.length c, .int .i64 r.read, .int .i64 r.steps, .int .i64 r.err] ∧ u.oneCell' = true ∧ v.oneCell' = true) (fun w h mm sa => (hrc _ w h _ (mm.tail) sa).cells) ?_
  rintro ⟨u1, u2, A7, c7, rfl, ho1, ho2⟩
  (apply RL.storeA; exact kEv; exact kEv; exact Takes.here _ _; exact rfl; exact (by simp only [List.all_cons, List.all_nil, ho1, ho2]; rfl); exact rfl)
  refine kAutoB ?_
  have hsz := hr.sizes hf h32 hi32 hs 3000 (by omega)
  rw [hrr] at hsz
  (apply RL.buildSlice; exact rfl; exact kEvl; exact rfl; (intro w; kernel_rfl); exact rfl; intro b40)
  refine RL.gives (row_of_cel (n := 0) (sz := 1) rfl (by simp) (by decide) _) ?_
  refine kAutoB ?_
  refine RL.append (by exact kEv) (by exact kEv) (Takes.here _ _) (fun h _ => base_src (by simp) (oneInt inp) hr5) (by simp only [maxLen]; omega) (by omega) rfl (fun A8 c8 => ?_)
  refine kAutoB ?_
  (apply RL.buildSlice; exact rfl; exact kEvl; exact rfl; (intro w; kernel_rfl); exact rfl; intro b43)
  rw [Nat.zero_add]
  rw [List.nil_append]
  refine RL.append (by exact kEv) (by exact kEv) (by exact kTake) (fun h _ => ⟨rfl, (fun u hu => by simp at hu; subst hu; rfl), .inr ⟨_, _, _, rfl, HasAt.pt (Takes.here _ _) atAll⟩⟩) (m := 3) (by simp only [maxLen]; omega) (by omega) rfl (fun A9 c9 => ?_)
  refine kAutoB ?_
  have hz32 := mem_zeros hi32
  have hzg := getD_zeros inp
  have hzl : inp.length + 3 = (inp ++ [0, 0, 0]).length := by simp
  have hzm : inp.map intV ++ [.int .i32 0, .int .i32 0, .int .i32 0] = (inp ++ [0, 0, 0]).map intV := by simp [intV]
  rw [hzm, hzl]
  generalize inp ++ [0, 0, 0] = zs at *
  refine CJ.gives (M' := cel b11 37 [u1, u2, .slice A7 r.out.length c7, .int .i64 r.read, .int .i64 r.steps, .int .i64 r.err] :: rcel b7 29 _ :: rcel b5 25 _ :: rowI (.slice A9 zs.length c9) zs :: (N1 ++ F))
    (Gives.cons (Takes.there (Takes.there (Takes.here _ _))) (Gives.cons (Takes.there (Takes.there (Takes.appR _ (Takes.here _ _)))) (Gives.cons (Takes.there (Takes.there (Takes.appR _ (Takes.here _ _)))) (Gives.cons (Takes.here _ _) (Gives.drop (Gives.refl _)))))) ?_
  (refine CJ.draws mixed 8 [cel b11 _ _, rcel b7 _ _, rcel b5 _ _] (by exact kGives) (dom_of (by kernel_rfl)) ?_)
  ((first | refine kAjB 0 ?_ | refine kAjS 0 ?_); (first | refine kAjB 1 ?_ | refine kAjS 1 ?_); (first | refine kAjB 2 ?_ | refine kAjS 2 ?_); (first | refine kAjB 3 ?_ | refine kAjS 3 ?_); (first | refine kAjB 4 ?_ | refine kAjS 4 ?_))
  (refine AJ.loud1 (i := 5) (by kernel_rfl) (by kernel_rfl) rfl (by kernel_rfl) (by kernel_rfl) rfl rfl rfl rfl rfl rfl (OpS.callAll (fun w h mm sa => Job_spec w (hT.sat sa) p _ hf (hR.up sa.below) t m _ (hM0.up sa.below) h32 _ zs (row_ints (Takes.there (Takes.there (Takes.there (Takes.here _ _)))) mm sa) hz32 (by omega) 3000 (by omega)) (by exact kEv) inferInstance (by exact kEvl) (by exact rfl)) ?_ ?_)
  rotate_left
  · rintro _ _ h; exact h.elim
  rintro _ _ ⟨N2, ⟨scs, rfl, hsc⟩, rfl⟩
  refine ⟨by (repeat (first | exact Gives.nil _ | (apply Gives.cons; (focus (exact Takes.here _ _))) | apply Gives.drop | apply Gives.skipApp)), ?_⟩
  rw [hr.input inp zs 3000 (fun i _ => hzg i), hrr] at hsc
  (refine AJ.loud1 (i := 6) (by kernel_rfl) (by kernel_rfl) rfl (by kernel_rfl) (by kernel_rfl) rfl rfl rfl rfl rfl rfl (OpS.callAll (fun w h mm sa => same_spec w _ scs r r (hrc _ w h _ (mm.skip.tail.tail.tail.tail) sa) (hsc _ w h _ mm sa) hsz.1 (by simp only [maxLen]; omega) true) (by exact kEv) inferInstance (by exact kEvl) (by exact rfl)) ?_ ?_)
  rotate_left
  · rintro _ _ h; exact h.elim
  rintro _ _ ⟨N3, ⟨rfl, rfl⟩, rfl⟩
  refine ⟨by (repeat (first | exact Gives.nil _ | (apply Gives.cons; (focus (exact Takes.here _ _))) | apply Gives.drop | apply Gives.skipApp)), ?_⟩
  rw [sameB_refl]
  ((first | refine kAjB 7 ?_ | refine kAjS 7 ?_))
  (refine AJ.done (by kernel_rfl) (by kernel_rfl) rfl (by kernel_rfl) ?_)
  refine XJ.gives (M' := cel b11 37 _ :: rcel b7 29 _ :: rcel b5 25 _ :: (N1 ++ F)) (Gives.skipApp (Gives.skipApp (Gives.cons (Takes.here _ _) (Gives.cons (Takes.here _ _) (Gives.cons (Takes.here _ _) (Gives.drop (Gives.refl _))))))) ?_
  refine kAutoB ?_
  cases hgt : decide ((r.read : Int) > (inp.length : Int))
  case true =>
    refine kAutoB ?_
    exact XJ.ret1 rfl rfl [] (by (repeat (first | exact Gives.refl _ | apply Gives.drop | apply Gives.skipApp))) ⟨rfl, rfl⟩
  have hle : r.read ≤ inp.length := by have := of_decide_eq_false hgt; omega
  have htk := IntsR.take hin0 r.read hle
  refine kAutoB ?_
  (apply RL.buildSlice; exact rfl; exact kEvl; exact rfl; (intro w; kernel_rfl); exact rfl; intro b58)
  refine RL.gives (row_of_cel (n := 0) (sz := 1) rfl (by simp) (by decide) _) ?_
  refine kAutoB ?_
  apply RL.pur; (exact OpP.sliceTo kEv kEv htk.1); exact rfl
  refine RL.append (by exact kEv) (by exact kEv) (Takes.here _ _) (fun h _ => base_src (xs := (inp.take r.read).map intV) (by simp; omega) (oneInt _) htk.2.2) (by simp only [maxLen]; omega) (by omega) rfl (fun A8 c8 => ?_)
  refine kAutoB ?_
  rw [Nat.zero_add]
  rw [List.nil_append]
  refine RL.append (by exact kEv) (by exact kEv) (Takes.here _ _) (fun h _ => base_src (by simp) (oneInt more) hr6) (by simp only [maxLen]; omega) (by omega) rfl (fun A10 c10 => ?_)
  refine kAutoB ?_
  have hol : r.read + more.length = (inp.take r.read ++ more).length := by simp; omega
  have hom : (inp.take r.read).map intV ++ more.map intV = (inp.take r.read ++ more).map intV := by simp
  have ho32 : ∀ x ∈ inp.take r.read ++ more, I32 x := fun x hx => (List.mem_append.1 hx).elim (fun h => hi32 x (List.mem_of_mem_take h)) (hm32 x)
  have hog : ∀ i, i < r.read → inp.getD i 0 = (inp.take r.read ++ more).getD i 0 := fun i hi => getD_more inp more hi hle
  rw [hom, hol]
  generalize inp.take r.read ++ more = os at *
  refine CJ.gives (M' := cel b11 37 [u1, u2, .slice A7 r.out.length c7, .int .i64 r.read, .int .i64 r.steps, .int .i64 r.err] :: rcel b7 29 _ :: rcel b5 25 _ :: rowI (.slice A10 os.length c10) os :: (N1 ++ F))
    (Gives.cons (Takes.there (Takes.here _ _)) (Gives.cons (Takes.there (Takes.here _ _)) (Gives.cons (Takes.there (Takes.here _ _)) (Gives.cons (Takes.here _ _) (Gives.refl _))))) ?_
  refine CJ.env (L' := [(13, .slice A10 os.length c10), (11, .pointer (some ⟨b11, 0, none⟩)), (7, .pointer (some ⟨b7, 0, none⟩)), (5, .pointer (some ⟨b5, 0, none⟩)), (1, .int .i64 t)]) (by exact kEsub) ?_
  (refine CJ.draws mixed 8 [cel b11 _ _, rcel b7 _ _, rcel b5 _ _] (by exact kGives) (dom_of (by kernel_rfl)) ?_)
  ((first | refine kAjB 0 ?_ | refine kAjS 0 ?_); (first | refine kAjB 1 ?_ | refine kAjS 1 ?_); (first | refine kAjB 2 ?_ | refine kAjS 2 ?_); (first | refine kAjB 3 ?_ | refine kAjS 3 ?_); (first | refine kAjB 4 ?_ | refine kAjS 4 ?_))
  (refine AJ.loud1 (i := 5) (by kernel_rfl) (by kernel_rfl) rfl (by kernel_rfl) (by kernel_rfl) rfl rfl rfl rfl rfl rfl (OpS.callAll (fun w h mm sa => Job_spec w (hT.sat sa) p _ hf (hR.up sa.below) t m _ (hM0.up sa.below) h32 _ os (row_ints (Takes.there (Takes.there (Takes.there (Takes.here _ _)))) mm sa) ho32 (by omega) 3000 (by omega)) (by exact kEv) inferInstance (by exact kEvl) (by exact rfl)) ?_ ?_)
  rotate_left
  · rintro _ _ h; exact h.elim
  rintro _ _ ⟨N4, ⟨qcs, rfl, hqc⟩, rfl⟩
  refine ⟨by (repeat (first | exact Gives.nil _ | (apply Gives.cons; (focus (exact Takes.here _ _))) | apply Gives.drop | apply Gives.skipApp)), ?_⟩
  rw [hr.input inp os 3000 (fun i hi => hog i (by rw [hrr] at hi; exact hi)), hrr] at hqc
  (refine AJ.loud1 (i := 6) (by kernel_rfl) (by kernel_rfl) rfl (by kernel_rfl) (by kernel_rfl) rfl rfl rfl rfl rfl rfl (OpS.callAll (fun w h mm sa => same_spec w _ qcs r r (hrc _ w h _ (mm.skip.tail.tail.tail.tail) sa) (hqc _ w h _ mm sa) hsz.1 (by simp only [maxLen]; omega) true) (by exact kEv) inferInstance (by exact kEvl) (by exact rfl)) ?_ ?_)
  rotate_left
  · rintro _ _ h; exact h.elim
  rintro _ _ ⟨N5, ⟨rfl, rfl⟩, rfl⟩
  refine ⟨by (repeat (first | exact Gives.nil _ | (apply Gives.cons; (focus (exact Takes.here _ _))) | apply Gives.drop | apply Gives.skipApp)), ?_⟩
  rw [sameB_refl]
  ((first | refine kAjB 7 ?_ | refine kAjS 7 ?_))
  (refine AJ.done (by kernel_rfl) (by kernel_rfl) rfl (by kernel_rfl) ?_)
  refine kAutoB ?_
  exact XJ.ret1 rfl rfl [] (by (repeat (first | exact Gives.refl _ | apply Gives.drop | apply Gives.skipApp))) ⟨rfl, rfl⟩
end Go.Proofs.YtgmapenlgammfaaGreatDoor

/- InterpSplits as a plain law: a condition that selects a block costs one step. -/
namespace Go.Proofs.YtgmapenlgammfaaGreatDoor
open Go
theorem seqJ_append (a b : List (JS → JR)) : ∀ s, seqJ (a ++ b) s = bindJ (seqJ a s) (seqJ b) := by
  induction a with
  | nil => intro s; rfl
  | cons f r ih =>
    intro s
    show bindJ (f s) (seqJ (r ++ b)) = bindJ (bindJ (f s) (seqJ r)) (seqJ b)
    cases e : (f s).2 with
    | none =>
      rw [bindJ_none e, bindJ_none e]
      exact ih _
    | some x =>
      rw [bindJ_some e, bindJ_some e]
      rfl
theorem exec_block (E : JE) (num : Int) (nm : ByteArray) (l : List Node) : execN E (.mk 47 num nm l) = seqJ (l.map (execN E)) := by
  funext s
  rw [execN, execL_map]
  rfl
def blockN (l : List Node) : Node := .mk 47 0 ByteArray.empty l
/-- A condition that is constant. -/
def splitN (truth : Bool) (l : List Node) (k : Nat) : Node :=
  .mk 41 0 ByteArray.empty [.mk 1 (if truth then 7 else 0) ByteArray.empty [], blockN (if truth then l.take k else l.drop k), blockN (if truth then l.drop k else l.take k)]
/-- The body of which a beginning is selected. -/
def splitB (truth : Bool) (l : List Node) (k : Nat) : Node := blockN (splitN truth l k :: l.drop k)
theorem exec_split (E : JE) (truth : Bool) (l : List Node) (k : Nat) (s : JS) : execN E (splitB truth l k) s = bindJ (stepJ E s) (seqJ (l.map (execN E))) := by
  have h1 : execN E (splitN truth l k) s = bindJ (stepJ E s) (seqJ ((l.take k).map (execN E))) := by
    unfold splitN
    rw [execN]
    show bindJ (stepJ E s) _ = _
    congr 1
    funext s
    cases truth
    · simp only [execL, stmtJ, ifJ, kid, List.getD_cons_zero, List.getD_cons_succ, blockN, exec_block]
      rfl
    · simp only [execL, stmtJ, ifJ, kid, List.getD_cons_zero, List.getD_cons_succ, blockN, exec_block]
      rfl
  unfold splitB blockN
  rw [exec_block]
  show bindJ (execN E (splitN truth l k) s) (seqJ ((l.drop k).map (execN E))) = _
  rw [h1]
  cases e : (stepJ E s).2 with
  | some x => rw [bindJ_some e, bindJ_some e]; rfl
  | none =>
    rw [bindJ_none e, bindJ_none e, ← seqJ_append, ← List.map_append, List.take_append_drop]
def setBody (p : Prg) (t : Nat) (b : Node) : Prg := { p with tasks := p.tasks.set t { p.tasks.getD t task0 with body := b } }
theorem set_task (p : Prg) {t : Nat} (b : Node) (h : t < p.tasks.length) : (setBody p t b).tasks.getD t task0 = { p.tasks.getD t task0 with body := b } := by
  unfold setBody
  simp [List.getD_eq_getElem?_getD, h]
theorem set_fits (p : Prg) (m : Mem) {t : Nat} (b : Node) (h : fitsB p m = true) (hv : okB (setBody p t b) = true) : fitsB (setBody p t b) m = true := by
  unfold fitsB at h ⊢
  unfold okB at hv
  simp only [Bool.and_eq_true] at h hv ⊢
  refine ⟨⟨hv.1, h.1.2⟩, ?_⟩
  have := h.2
  unfold tasksB at this ⊢
  rw [Bool.and_eq_true, decide_eq_true_eq, allI_iff] at this ⊢
  refine ⟨by simpa [setBody] using this.1, ?_⟩
  intro i hi
  have hi' : i < p.tasks.length := by simpa [setBody] using hi
  have := this.2 i hi'
  have e : ((setBody p t b).tasks.getD i task0).arrays = (p.tasks.getD i task0).arrays := by
    unfold setBody
    simp only [List.getD_eq_getElem?_getD, List.getElem?_set]
    split
    · rename_i e
      subst e
      rw [if_pos hi']
      rfl
    · rfl
  rw [e]
  exact this
theorem Runs.set {p : Prg} {t : Int} {m : Mem} (h : Runs p t m) (b : Node) (hv : okB (setBody p t.toNat b) = true) : Runs (setBody p t.toNat b) t m :=
  ⟨hv, h.lo, by have := h.hi; simpa [setBody] using this, set_fits p m b h.fits hv⟩
/-- The law. -/
theorem Runs.split {p : Prg} {t : Int} {m : Mem} (h : Runs p t m) (inp : List Int) (fuel : Int) (h0 : 0 ≤ fuel) (truth : Bool) (k : Nat) (num : Int) (nm : ByteArray) (l : List Node) (hb : (tsk p t).body = .mk 47 num nm l)
    (hv : okB (setBody p t.toNat (splitB truth l k)) = true) :
    jobAll (setBody p t.toNat (splitB truth l k)) t m inp (fuel + 1) = { jobAll p t m inp fuel with steps := (jobAll p t m inp fuel).steps + 1 } := by
  have hq := h.set _ hv
  have ht : t.toNat < p.tasks.length := by have := h.lo; have := h.hi; omega
  rw [hq.run, h.run]
  have e1 : tsk (setBody p t.toNat (splitB truth l k)) t = { tsk p t with body := splitB truth l k } := set_task p _ ht
  have e2 : bodyRun (setBody p t.toNat (splitB truth l k)) t m inp (fuel + 1) = (upS (bodyRun p t m inp fuel).1, (bodyRun p t m inp fuel).2) := by
    unfold bodyRun
    rw [e1]
    have eE : jobE { tsk p t with body := splitB truth l k } (setBody p t.toNat (splitB truth l k)) inp (fuel + 1) = withFuel (jobE (tsk p t) p inp fuel) (fuel + 1) := rfl
    rw [eE]
    show execN _ (splitB truth l k) (job0 (tsk p t) (own m t) m.shared) = _
    rw [exec_split]
    have es : stepJ (withFuel (jobE (tsk p t) p inp fuel) (fuel + 1)) (job0 (tsk p t) (own m t) m.shared) = (upS (job0 (tsk p t) (own m t) m.shared), none) := by
      unfold stepJ
      rw [if_neg (by simp only [job0, withFuel]; omega)]
      rfl
    rw [es, bindJ_none rfl]
    have hs := shClosed.exec (tsk p t).body (jobE (tsk p t) p inp fuel) (job0 (tsk p t) (own m t) m.shared)
    rw [hb] at hs ⊢
    simp only [exec_block] at hs
    rw [exec_block]
    exact hs
  rw [e2]
  rfl
end Go.Proofs.YtgmapenlgammfaaGreatDoor

/- Slices of lists of trees; copies of rows. -/
namespace Go.Proofs.YtgmapenlgammfaaGreatDoor
open Go
attribute [local semireducible] Base HasAt
theorem base_app {w : World} {b o : Nat} {r s : List Value} (h1 : Base w b o r) (h2 : Base w b (o + r.length) s) : Base w b o (r ++ s) := by
  intro j v e
  rw [List.getElem?_append] at e
  split at e
  · exact h1 j v e
  · have := h2 (j - r.length) v e
    rwa [show o + r.length + (j - r.length) = o + j by omega] at this
theorem flat_base {w : World} {b sz : Nat} : ∀ (rows : List (List Value)) (o : Nat), (∀ (i : Nat) r, rows[i]? = some r → r.length = sz ∧ Base w b (o + i * sz) r) → Base w b o rows.flatten
  | [], o, _ => fun j v e => by simp at e
  | r :: rows, o, h => by
    rw [List.flatten_cons]
    have h0 := h 0 r rfl
    refine base_app (by simpa using h0.2) ?_
    rw [h0.1]
    refine flat_base (sz := sz) rows _ fun i q e => ?_
    have := h (i + 1) q (by simpa using e)
    refine ⟨this.1, ?_⟩
    rw [show o + sz + i * sz = o + (i + 1) * sz by rw [Nat.add_mul]; omega]
    exact this.2
theorem flat_len {sz : Nat} : ∀ {rows : List (List Value)}, (∀ r ∈ rows, r.length = sz) → rows.flatten.length = rows.length * sz
  | [], _ => by simp
  | r :: rows, h => by
    rw [List.flatten_cons, List.length_append, flat_len (rows := rows) fun q hq => h q (by simp [hq]), h r (by simp), List.length_cons, Nat.add_mul]
    omega
theorem RowsB.len {w : World} {sz : Nat} {A : Option Addr} {rows : List (List Value)} (h : RowsB w sz A rows) : ∀ r ∈ rows, r.length = sz := fun r hr => by
  obtain ⟨i, hi, rfl⟩ := List.getElem_of_mem hr
  obtain ⟨_, _, _, e, _⟩ := h.at_ i hi
  exact e
/-- What is appended: rows of the base. -/
theorem rows_src {w0 : World} {M : List HProp} {sz n c : Nat} {A : Option Addr} {rows : List (List Value)} (hR : RowsB w0 sz A rows) (h1 : ∀ r ∈ rows, ∀ u ∈ r, u.oneCell' = true) (hn : rows.length = n) : Src w0 M sz (.slice A n c) n rows.flatten := by
  subst hn
  refine ⟨flat_len hR.len, fun u hu => ?_, ?_⟩
  · obtain ⟨r, hr, hu⟩ := List.mem_flatten.1 hu
    exact h1 r hr u hu
  · rcases Nat.eq_zero_or_pos rows.length with h0 | h0
    · exact .inl ⟨h0, A, c, by rw [h0]⟩
    · obtain ⟨b, o, rfl, _, _⟩ := hR.at_ 0 h0
      refine .inr ⟨b, o, c, rfl, HasAt.base (flat_base (sz := sz) rows o fun i r e => ?_)⟩
      obtain ⟨b', o', e1, e2, e3⟩ := hR i r e
      cases e1
      exact ⟨e2, e3⟩
theorem NodeR.cells {w : World} {n : Node} {r : List Value} (h : NodeR w n r) : r.length = 4 ∧ ∀ u ∈ r, u.oneCell' = true := by
  obtain ⟨A, c, rfl, _, _⟩ := h.kids
  refine ⟨rfl, fun u hu => ?_⟩
  simp only [List.mem_cons, List.not_mem_nil, or_false] at hu
  rcases hu with rfl | rfl | rfl | rfl <;> rfl
theorem TaskR.cells {w : World} {t : Task} {r : List Value} (h : TaskR w t r) : r.length = 8 ∧ ∀ u ∈ r, u.oneCell' = true := by
  obtain ⟨A1, c1, A2, c2, bs, rfl, _, _, _, _, hb⟩ := h.ex
  obtain ⟨h1, h2⟩ := hb.cells
  refine ⟨by simp [h1], fun u hu => ?_⟩
  simp only [List.mem_append, List.mem_cons, List.not_mem_nil, or_false] at hu
  rcases hu with (rfl | rfl | rfl | rfl) | hu
  · rfl
  · rfl
  · rfl
  · rfl
  · exact h2 u hu
theorem NodesR.take {w : World} {A : Option Addr} {l : List Node} (h : NodesR w A l) (k : Nat) : NodesR w A (l.take k) := by
  obtain ⟨rows, h1, h2, h3⟩ := h.ex
  refine ⟨rows.take k, by simp [h1], fun i r e => ?_, fun i m r e1 e2 => ?_⟩
  · rw [List.getElem?_take] at e
    split at e
    · exact h2 i r e
    · cases e
  · rw [List.getElem?_take] at e1 e2
    split at e1
    · rw [if_pos (by assumption)] at e2
      exact h3 i m r e1 e2
    · cases e1
theorem RowsB.drop {w : World} {sz k c : Nat} {A : Option Addr} {rows : List (List Value)} (h : RowsB w sz A rows) (hc : rows.length ≤ c) : RowsB w sz (if c = k then A else A.map fun a => a.add (k * sz)) (rows.drop k) := by
  intro i r e
  rw [List.getElem?_drop] at e
  obtain ⟨b, o, rfl, e2, e3⟩ := h _ r e
  have hlt : k + i < rows.length := (List.getElem?_eq_some_iff.1 e).1
  rw [if_neg (by omega)]
  refine ⟨b, o + k * sz, ?_, e2, ?_⟩
  · simp only [Option.map_some, Addr.add]
    split
    · rename_i hz; rw [hz]; rfl
    · rfl
  · rw [show o + k * sz + i * sz = o + (k + i) * sz by rw [Nat.add_mul]; omega]
    exact e3
theorem NodesR.drop {w : World} {A : Option Addr} {l : List Node} (h : NodesR w A l) (k : Nat) {c : Nat} (hc : l.length ≤ c) : NodesR w (if c = k then A else A.map fun a => a.add (k * 4)) (l.drop k) := by
  obtain ⟨rows, h1, h2, h3⟩ := h.ex
  refine ⟨rows.drop k, by simp [h1], h2.drop (by omega), fun i m r e1 e2 => ?_⟩
  rw [List.getElem?_drop] at e1 e2
  exact h3 _ m r e1 e2
theorem NodesR.node {w : World} {A : Option Addr} {l : List Node} (h : NodesR w A l) {n c : Nat} (hn : l.length = n) (hc : n ≤ c) (kind num : Int) (s : ByteArray) : NodeR w (.mk kind num s l) [.int .u8 kind, .int .i64 num, .string s, .slice A n c] := by
  subst hn
  obtain ⟨rows, h1, h2, h3⟩ := h.ex
  exact NodeR.mk h1 hc h2 h3
/-- A part of a flat list of rows is written. -/
theorem flat_put {sz a : Nat} {vs r : List Value} (hv : a + vs.length = sz) : ∀ {rows : List (List Value)} {i : Nat}, (∀ q ∈ rows, q.length = sz) → rows[i]? = some r → setSeg rows.flatten vs (i * sz + a) = (rows.set i (r.take a ++ vs)).flatten
  | [], i, _, e => by simp at e
  | q :: rows, 0, h, e => by
    simp only [List.getElem?_cons_zero, Option.some.injEq] at e
    subst e
    have hq := h q (by simp)
    simp only [setSeg, List.flatten_cons, List.set_cons_zero, Nat.zero_mul, Nat.zero_add]
    rw [List.take_append_of_le_length (by omega), List.drop_append, List.drop_of_length_le (by omega), show a + vs.length - q.length = 0 by omega]
    simp
  | q :: rows, i + 1, h, e => by
    have hq := h q (by simp)
    have ih := flat_put hv (rows := rows) (i := i) (fun x hx => h x (by simp [hx])) (by simpa using e)
    simp only [List.flatten_cons, List.set_cons_succ]
    rw [← ih]
    simp only [setSeg]
    rw [show (i + 1) * sz + a = q.length + (i * sz + a) by rw [hq, Nat.add_mul]; omega, List.take_length_add_append, show q.length + (i * sz + a) + vs.length = q.length + (i * sz + a + vs.length) by omega, List.drop_length_add_append]
    simp
end Go.Proofs.YtgmapenlgammfaaGreatDoor

/- The other program of InterpSplits as it lies in memory. -/
namespace Go.Proofs.YtgmapenlgammfaaGreatDoor
open Go
theorem nodeR_three {w : World} {k n : Int} {s : ByteArray} {b : Nat} {x y z : Node} {r q u : List Value} (hl : r.length = 4) (hl2 : q.length = 4) (hl3 : u.length = 4) (hx : NodeR w x r) (hy : NodeR w y q) (hz : NodeR w z u) (hb : Base w b 0 (r ++ q ++ u)) : NodeR w (.mk k n s [x, y, z]) (nV k n s b 3) :=
  NodeR.mk (rows := [r, q, u]) rfl (Nat.le_refl _) (rowsB_flat (by simp [hl, hl2, hl3]) (by simpa using hb)) (fun i m z h1 h2 => by
    rcases i with _ | _ | _ | i
    · simp at h1 h2; subst h1 h2; exact hx
    · simp at h1 h2; subst h1 h2; exact hy
    · simp at h1 h2; subst h1 h2; exact hz
    · simp at h1)
theorem nodeR_num {w : World} (n : Int) : NodeR w (.mk 1 n sE []) [.int .u8 1, .int .i64 n, .string sE, .slice none 0 0] := NodeR.mk (rows := []) rfl (Nat.le_refl _) (fun i r h => by simp at h) (fun i m r h => by simp at h)
theorem split_node {w : World} {b : Nat} {truth : Bool} {l : List Node} {k : Nat} {tv : Int} (htv : (if truth = true then (7 : Int) else 0) = tv) {ra rb : List Value}
    (ha : NodeR w (blockN (if truth then l.take k else l.drop k)) ra) (hb : NodeR w (blockN (if truth then l.drop k else l.take k)) rb) (hB : Base w b 0 ([.int .u8 1, .int .i64 tv, .string sE, .slice none 0 0] ++ ra ++ rb)) :
    NodeR w (splitN truth l k) (nV 41 0 sE b 3) := by
  subst htv
  exact nodeR_three rfl ha.cells.1 hb.cells.1 (nodeR_num _) ha hb hB
theorem split_body {w : World} {b g c : Nat} {truth : Bool} {l : List Node} {k : Nat} {rows7 : List (List Value)} (hl7 : rows7.length = l.length) (hk : k ≤ l.length) (h4 : ∀ r ∈ rows7, r.length = 4) (hR7 : ∀ (i : Nat) m r, l[i]? = some m → rows7[i]? = some r → NodeR w m r)
    (hn : NodeR w (splitN truth l k) (nV 41 0 sE b 3)) (hc : 1 + (l.length - k) ≤ c) (hB : Base w g 0 (nV 41 0 sE b 3 ++ (rows7.drop k).flatten)) :
    NodeR w (splitB truth l k) [.int .u8 47, .int .i64 0, .string sE, .slice (some ⟨g, 0, none⟩) (1 + (l.length - k)) c] := by
  refine NodesR.node (l := splitN truth l k :: l.drop k) ⟨nV 41 0 sE b 3 :: rows7.drop k, by simp [hl7], rowsB_flat (fun r hr => ?_) (by simpa using hB), fun i m r e1 e2 => ?_⟩ (by simp; omega) hc 47 0 sE
  · rcases List.mem_cons.1 hr with rfl | hr
    · rfl
    · exact h4 r (List.mem_of_mem_drop hr)
  · rcases i with _ | i
    · simp at e1 e2; subst e1 e2; exact hn
    · simp only [List.getElem?_cons_succ, List.getElem?_drop] at e1 e2
      exact hR7 _ m r e1 e2
theorem split_prog {w : World} {p : Prg} {tn bq c1 c8 : Nat} {A1 : Option Addr} {B : Node} {rowsT : List (List Value)} {bs : List Value} (htn : tn < p.tasks.length) (hc1 : p.shared.length ≤ c1) (hc8 : p.tasks.length ≤ c8) (hsh : RowsB w 2 A1 (p.shared.map arrRow))
    (hrl : rowsT.length = p.tasks.length) (hrR : ∀ (i : Nat) m r, p.tasks[i]? = some m → rowsT[i]? = some r → TaskR w m r) (hB : NodeR w B bs) (hb : Base w bq 0 (setSeg rowsT.flatten bs (tn * 8 + 4))) :
    PrgR w (setBody p tn B) [.slice A1 p.shared.length c1, .slice (some ⟨bq, 0, none⟩) p.tasks.length c8] := by
  have h8 : ∀ r ∈ rowsT, r.length = 8 := fun r hr => by
    obtain ⟨i, hi, rfl⟩ := List.getElem_of_mem hr
    exact (hrR i (p.tasks[i]'(by omega)) _ (by simp [show i < p.tasks.length by omega]) (by simp [hi])).cells.1
  have hrt : rowsT[tn]? = some (rowsT[tn]'(by omega)) := by simp [show tn < rowsT.length by omega]
  have h4 := hB.cells.1
  rw [flat_put (sz := 8) (a := 4) (by omega) h8 hrt] at hb
  have hT := hrR tn p.tasks[tn] _ (by simp [htn]) hrt
  have hT' : TaskR w { p.tasks.getD tn task0 with body := B } ((rowsT[tn]'(by omega)).take 4 ++ bs) := by
    obtain ⟨a1, d1, a2, d2, bs', e, g1, g2, g3, g4, _⟩ := hT.ex
    rw [e]
    have : p.tasks.getD tn task0 = p.tasks[tn] := by simp [List.getD_eq_getElem?_getD, htn]
    rw [this]
    exact ⟨a1, d1, a2, d2, bs, rfl, g1, g2, g3, g4, hB⟩
  refine ⟨A1, c1, some ⟨bq, 0, none⟩, c8, by simp [setBody], hc1, by simpa [setBody] using hc8, hsh, rowsT.set tn ((rowsT[tn]'(by omega)).take 4 ++ bs), by simp [setBody, hrl], rowsB_flat (fun r hr => ?_) hb, fun i m r e1 e2 => ?_⟩
  · rcases List.mem_or_eq_of_mem_set hr with hr | rfl
    · exact h8 r hr
    · exact hT'.cells.1
  · simp only [setBody] at e1
    rw [List.getElem?_set] at e1 e2
    split at e1
    · rename_i e
      subst e
      rw [if_pos rfl, if_pos (by omega)] at e2
      injection e1 with e1
      injection e2 with e2
      subst e1 e2
      exact hT'
    · rename_i e
      rw [if_neg e] at e2
      exact hrR i m r e1 e2
theorem sizeAll_append (a b : List Node) : Node.sizeAll (a ++ b) = Node.sizeAll a + Node.sizeAll b := by
  induction a with
  | nil => simp [Node.sizeAll]
  | cons x r ih => simp only [List.cons_append, Node.sizeAll, ih]; omega
theorem split_size (truth : Bool) (l : List Node) (k : Nat) : (splitB truth l k).size ≤ 2 * Node.sizeAll l + 5 := by
  have h := sizeAll_append (l.take k) (l.drop k)
  rw [List.take_append_drop] at h
  cases truth <;> simp [splitB, splitN, blockN, Node.size, Node.sizeAll] <;> omega
theorem split_fit {p : Prg} (hf : Fit p) {tn : Nat} {B : Node} (hB : B.size < 4611686018427387904) : Fit (setBody p tn B) := by
  refine ⟨hf.shared, by simpa [setBody] using hf.tasks, fun t ht => ?_⟩
  rcases List.mem_or_eq_of_mem_set ht with ht | rfl
  · exact hf.each t ht
  · rcases Nat.lt_or_ge tn p.tasks.length with h | h
    · have := hf.each _ (getD_mem0 (d := task0) h)
      exact ⟨this.1, this.2.1, hB⟩
    · rw [List.getD_eq_getElem?_getD, List.getElem?_eq_none h]
      refine ⟨?_, ?_, hB⟩ <;> simp [task0]
end Go.Proofs.YtgmapenlgammfaaGreatDoor

/- Regions that draw their order: three that may come up. -/
namespace Go.Proofs.YtgmapenlgammfaaGreatDoor
open Go
section
variable {P : Program} {w0 : World} {n : Nat} {ops : Array Oper} {Q : Exit → Act → World → Prop} {Mro : List HProp} {k : Nat} {D : List Nat} {L : Env} {M : List HProp}
theorem kLoud {K : Value → List HProp → Prop} {KP : List PanicEntry → List HProp → Prop} {d : Nat} {op : Op} {T : TypeId} {p : String} {af : Array Edge} {gd : Option (Nat × Bool)} (i : Nat) (ho : ops[i]? = some ⟨some d, op, T, p, af, gd⟩) (hop : OpS P w0 L M ⟨some d, op, T, p, af, gd⟩ K KP) (hkp : ∀ c M', KP c M' → False) (hkk : ∀ v M', K v M' → Gives M' Mro ∧ AJ P w0 n ops Q Mro k (i :: D) ((d, v) :: L) M')
    (hw : wantedL ops L ⟨some d, op, T, p, af, gd⟩ = some true := by exact rfl) (hik : Nat.blt i k = true := by exact rfl) (hd : Nat.blt d n = true := by exact rfl) (hf : L.get d = none := by exact rfl) (hns : notSel ⟨some d, op, T, p, af, gd⟩ = true := by exact rfl)
    (hlk : ((Oper.looksAt ops ⟨some d, op, T, p, af, gd⟩).all fun t => (L.get t).isSome) = true := by exact rfl) : Loud P w0 n ops Q Mro k D L M i := by
  refine ⟨_, K, KP, ho, hw, fun e he => (by injection he with he; subst he; simpa [Nat.blt_eq] using hd), fun e he => (by injection he with he; subst he; exact hf), hns, ?_, by simpa [Nat.blt_eq] using hik, hop, hkk, fun c M' h => (hkp c M' h).elim⟩
  intro t ht
  exact Option.isSome_iff_exists.1 (List.all_eq_true.1 hlk t ht)
theorem AJ.one {i : Nat} (hi : Loud P w0 n ops Q Mro k D L M i) (hv : vready ops D = [i] := by kernel_rfl) (hor : ordOk ops = true := by kernel_rfl) (hn : namesOk ops k = true := by kernel_rfl) (hk : Nat.ble k ops.size = true := by exact rfl) (hne : ((List.range ops.size).all (D.contains ·)) = false := by kernel_rfl) : AJ P w0 n ops Q Mro k D L M := by
  refine AJ.louds hor hn hk hne fun j hj => ?_
  rw [hv] at hj
  obtain rfl : j = i := by simpa using hj
  exact hi
theorem AJ.two {i j : Nat} (hi : Loud P w0 n ops Q Mro k D L M i) (hj : Loud P w0 n ops Q Mro k D L M j) (hv : vready ops D = [i, j] := by kernel_rfl) (hor : ordOk ops = true := by kernel_rfl) (hn : namesOk ops k = true := by kernel_rfl) (hk : Nat.ble k ops.size = true := by exact rfl) (hne : ((List.range ops.size).all (D.contains ·)) = false := by kernel_rfl) : AJ P w0 n ops Q Mro k D L M := by
  refine AJ.louds hor hn hk hne fun x hx => ?_
  rw [hv] at hx
  simp only [List.mem_cons, List.not_mem_nil, or_false] at hx
  rcases hx with rfl | rfl
  · exact hi
  · exact hj
theorem AJ.three {i j l : Nat} (hi : Loud P w0 n ops Q Mro k D L M i) (hj : Loud P w0 n ops Q Mro k D L M j) (hl : Loud P w0 n ops Q Mro k D L M l) (hv : vready ops D = [i, j, l] := by kernel_rfl) (hor : ordOk ops = true := by kernel_rfl) (hn : namesOk ops k = true := by kernel_rfl) (hk : Nat.ble k ops.size = true := by exact rfl) (hne : ((List.range ops.size).all (D.contains ·)) = false := by kernel_rfl) : AJ P w0 n ops Q Mro k D L M := by
  refine AJ.louds hor hn hk hne fun x hx => ?_
  rw [hv] at hx
  simp only [List.mem_cons, List.not_mem_nil, or_false] at hx
  rcases hx with rfl | rfl | rfl
  · exact hi
  · exact hj
  · exact hl
end
end Go.Proofs.YtgmapenlgammfaaGreatDoor

/- The law InterpSplits: the walk. -/
namespace Go.Proofs.YtgmapenlgammfaaGreatDoor
open Go
section
attribute [local semireducible] Takes Gives Ev OpS row pt Base
variable {P : Program} {w0 : World} {L : Env} {M : List HProp} {d : Option Tmp} {T : TypeId} {p : String} {af : Array Edge} {g : Option (Nat × Bool)}
/-- A store of many cells into a list of one's own. -/
theorem OpS.rowPut {t : TypeId} {x y : Operand} {b o n c z sz : Nat} {E : TypeId} {xs vs : List Value} {M' : List HProp} [k : AggT P t z] (hx : Ev L x (.pointer (some ⟨b, o, none⟩))) (hy : Ev L y (.agg vs.toArray)) (hn : vs.length = z) (h1 : ∀ u ∈ vs, u.oneCell' = true) (hm : Takes M [row E sz (.slice (some ⟨b, 0, none⟩) n c) n xs] M') (ho : o + z ≤ n * sz) :
    OpS P w0 L M ⟨d, .store t x y, T, p, af, g⟩ (fun _ M'' => M'' = row E sz (.slice (some ⟨b, 0, none⟩) n c) n (setSeg xs vs o) :: M') noP :=
  fun q a w h s m sa => by
    obtain ⟨f1, f2, l1, l2, dd, ⟨e1, e2, e3⟩, m2⟩ := hm h m
    rcases e3 with ⟨e, _⟩ | ⟨gg, cap, cur, e, ha, hc1, hc2, hc, ht⟩
    · cases e
    simp only [Value.slice.injEq, Option.some.injEq, Addr.mk.injEq, and_true, true_and] at e
    obtain ⟨rfl, rfl⟩ := e
    have hns : n * sz ≤ c * sz := Nat.mul_le_mul_right _ hc1
    have hm' : star (cel b E cur :: M') h := ⟨f1, f2, l1, l2, dd, ha, m2⟩
    have hr := run_storeVar_at (P := P) (o := o) (v := .agg vs.toArray) (k.sz w) rfl hn h1 (sa.pt hm') (by omega)
    obtain ⟨h', m', s'⟩ := sa.setRow (cs' := setSeg cur vs o) hm'
    simp only [execOp, hx q a s, hy q a s, Instr.storeAt, Instr.sureAddr, Sem.run_bind, Sem.run_pure, Result.andThen_ok, hr, ResS]
    refine ⟨_, h', rfl, ?_, s'⟩
    obtain ⟨g1, g2, k1, k2, d2, hb, m3⟩ := m'
    have hlen : ∀ l : List Value, o + z ≤ l.length → (setSeg l vs o).length = l.length := by
      intro l hl
      simp only [setSeg, List.length_append, List.length_take, List.length_drop]
      omega
    refine ⟨g1, g2, k1, k2, d2, ⟨by rw [hlen xs (by omega)]; exact e1, ?_, .inr ⟨b, c, setSeg cur vs o, rfl, hb, hc1, hc2, by rw [hlen cur (by omega)]; exact hc, ?_⟩⟩, m3⟩
    · intro u hu
      simp only [setSeg, List.mem_append] at hu
      rcases hu with (hu | hu) | hu
      · exact e2 u (List.mem_of_mem_take hu)
      · exact h1 u hu
      · exact e2 u (List.mem_of_mem_drop hu)
    · rw [← ht]
      simp only [setSeg]
      apply List.ext_getElem?
      intro i
      simp only [List.getElem?_take, List.getElem?_append, List.getElem?_drop, List.length_append, List.length_take]
      by_cases h1 : i < n * sz
      · rw [if_pos h1, show min o (min (n * sz) cur.length) = min o cur.length by omega]
        by_cases h2 : i < min o cur.length + vs.length
        · rw [if_pos h2, if_pos h2]
          by_cases h3 : i < min o cur.length
          · rw [if_pos h3, if_pos h3]
            simp only [show i < o by omega, if_true, h1]
          · rw [if_neg h3, if_neg h3]
        · rw [if_neg h2, if_neg h2]
          simp only [show o + vs.length + (i - (min o cur.length + vs.length)) < n * sz by omega, if_true]
      · rw [if_neg h1, show min o (min (n * sz) cur.length) = min o cur.length by omega]
        rw [if_neg (by omega)]
        simp only [show ¬ (o + vs.length + (i - (min o cur.length + vs.length)) < n * sz) by omega, if_false]
theorem AJ.gives {P : Program} {w0 : World} {n : Nat} {ops : Array Oper} {Q : Exit → Act → World → Prop} {Mro : List HProp} {k : Nat} {D : List Nat} {L : Env} {M M' : List HProp} (g : Gives M M') (hm : Gives M' Mro) (kk : AJ P w0 n ops Q Mro k D L M') : AJ P w0 n ops Q Mro k D L M := fun _ fuel Z listed a w h r hp m s hc => kk hm fuel Z listed a w h r hp (g h m) s hc
theorem row_ptrN {E sz n : Nat} {u : Value} {xs : List Value} {M M' : List HProp} {h : Frag} (t : Takes M [row E sz u n xs] M') (m : star M h) (hl : 0 < n) : ∃ b c, u = .slice (some ⟨b, 0, none⟩) n c := by
  obtain ⟨h1, h2, l1, l2, dd, ⟨e1, e2, e3⟩, m2⟩ := t h m
  rcases e3 with ⟨e, e'⟩ | ⟨g, cap, cur, e, _⟩
  · omega
  · exact ⟨g, cap, e⟩
theorem rowN_base {w0 w : World} {h : Frag} {M M' : List HProp} {E sz b n c : Nat} {xs : List Value} (t : Takes M [row E sz (.slice (some ⟨b, 0, none⟩) n c) n xs] M') (mm : star M h) (sa : Go.Proofs.YtgmapenlgammfaaGreatDoor.Sat w0 w h) : Base w b 0 xs := by
  obtain ⟨f1, f2, l1, l2, dd, ⟨e1, e2, e3⟩, m2⟩ := t h mm
  rcases e3 with ⟨e, _⟩ | ⟨gg, cap, cur, e, ha, hc1, hc2, hc, ht⟩
  · cases e
  simp only [Value.slice.injEq, Option.some.injEq, Addr.mk.injEq, and_true, true_and] at e
  obtain ⟨rfl, rfl⟩ := e
  have hm' : star (cel b E cur :: M') h := ⟨f1, f2, l1, l2, dd, ha, m2⟩
  have hB := cel_base (Takes.here _ _) hm' sa
  intro j v hv
  rw [← ht, List.getElem?_take] at hv
  split at hv
  · exact hB j v hv
  · cases hv
theorem AJ.factS {P : Program} {w0 : World} {n : Nat} {ops : Array Oper} {Q : Exit → Act → World → Prop} {Mro : List HProp} {k : Nat} {D : List Nat} {L : Env} {M : List HProp} {p : Prop} (f : ∀ w h, star M h → Go.Proofs.YtgmapenlgammfaaGreatDoor.Sat w0 w h → p) (kk : p → AJ P w0 n ops Q Mro k D L M) : AJ P w0 n ops Q Mro k D L M := fun g fuel Z listed a w h r hp m s hc => kk (f w h m s) g fuel Z listed a w h r hp m s hc
end
theorem res_one {u1 u2 : Value} {A : Option Addr} {n c : Nat} {a b e : Int} (h1 : u1.oneCell' = true) (h2 : u2.oneCell' = true) : ∀ u ∈ [u1, u2, .slice A n c, .int .i64 a, .int .i64 b, .int .i64 e], u.oneCell' = true := by
  intro u hu
  simp only [List.mem_cons, List.not_mem_nil, or_false] at hu
  rcases hu with rfl | rfl | rfl | rfl | rfl | rfl
  · exact h1
  · exact h2
  all_goals rfl
theorem splits_spec (w0 : World) (hT : Tab w0) (p : Prg) (pcs : List Value) (hR : PrgR w0 p pcs) (m : Mem) (mcs : List Value) (hM : MemR w0 mcs m) (h32 : Mem32 m) (hL : MemL m) (inV : Value) (inp : List Int) (hin : IntsR w0 inV inp) (hi32 : ∀ x ∈ inp, I32 x) (t cut : Int) (hc0 : 0 ≤ cut) (hc1 : cut ≤ 255) (truth : Bool) :
    Spec Tryz.prog w0 9 #[.agg pcs.toArray, .int .i64 t, .agg mcs.toArray, inV, .int .u8 cut, .bool truth] [] (Is (.bool true)) := by
  have hA := awake_spec w0 hT
  have hG := Great16_spec w0 p pcs hR m mcs hM hL.shared.1 (fun q hq => (hL.each q hq).1) inV inp hin
  have hRun : Fit p → _ := fun hf => runnable_spec w0 hT p pcs hR hf m mcs hM t
  have hM0 := hM
  obtain ⟨A1, c1, A2, c2, rfl, hcs, hc2, hr1, hts⟩ := hR.ex
  obtain ⟨u, v, rfl, hu, hv⟩ := hM
  obtain ⟨A3, c3, vs3, rfl, -, -, -, -⟩ := hu
  obtain ⟨A4, c4, vs4, rfl, -, -, -, -⟩ := hv
  refine Spec.enter (args := [_, _, _, _, _, _]) Tryz.func9 rfl rfl rfl (fun F => ?_)
  refine kAutoB ?_
  (apply RL.boxR; exact kEv; exact rfl; intro b6)
  (apply RL.boxR; exact kEv; exact rfl; intro b8)
  refine kAutoB ?_
  (apply RL.callIs; exact kEv; exact inferInstance; exact kEvl; exact hA; exact rfl)
  refine kAutoB ?_
  (apply RL.callIs; exact kEv; exact inferInstance; exact kEvl; exact hG; exact rfl)
  cases e1 : greatL p m inp
  case true =>
    refine kAutoB ?_
    exact XJ.ret1 rfl rfl [] (by exact kGives) ⟨rfl, rfl⟩
  obtain ⟨hf, hs⟩ := small_of_great e1
  have hil := hs.inp
  refine kAutoB ?_
  (apply RL.callIs; exact kEv; exact inferInstance; exact kEvl; exact hRun hf; exact rfl)
  cases e2 : runB p t m
  case false =>
    refine kAutoB ?_
    exact XJ.ret1 rfl rfl [] (by exact kGives) ⟨rfl, rfl⟩
  have hr := runs_of e2
  obtain ⟨tn, rfl⟩ : ∃ n : Nat, t = (n : Int) := ⟨t.toNat, by have := hr.lo; omega⟩
  have htn : tn < p.tasks.length := by have := hr.hi; omega
  have hFM := fits_facts hf hr.fits
  have htl := hFM.tl
  obtain ⟨bt, ot, rt, hA2, hbt, hrt, hrtR⟩ := hts.at_ tn htn
  subst hA2
  obtain ⟨A5, c5, A6, c6, bs, rfl, g1, g2, g3, g4, hbody⟩ := hrtR.ex
  generalize hTT : p.tasks[tn] = TT at *
  obtain ⟨q1, q2, q3, q4, q5, q6⟩ := hFM.ae tn TT (m.arrays[tn]'(by have := hFM.ar; omega)) (by rw [← hTT]; simp [htn]) (by simp [show tn < m.arrays.length by have := hFM.ar; omega])
  obtain ⟨A7, c7, rfl, hc7, hN7⟩ := hbody.kids
  have hkl := Node.kids_le TT.body
  refine kAutoB ?_
  apply RL.pur; (apply OpP.indexAddr; exact kEv; exact kEv; exact htn); exact rfl
  refine kAutoB ?_
  apply RL.pur; (apply OpP.load; exact kEv; exact HasAt.base (hbt.one 7 rfl)); exact rfl
  refine kAutoB ?_
  have hw1 : IntKind.i64.wrap cut = cut := i64_id hc0 (by omega)
  have hw2 : IntKind.i64.wrap ((TT.body.kids.length : Int) + 1) = ((TT.body.kids.length + 1 : Nat) : Int) := i64_up _ (by omega)
  rw [hw1, hw2]
  apply RL.pur; (apply OpP.rem; exact kEv; exact kEv; exact (by omega)); exact rfl
  have hk0 : 0 ≤ cut.tmod ((TT.body.kids.length + 1 : Nat) : Int) := Int.tmod_nonneg _ hc0
  have hk1 : cut.tmod ((TT.body.kids.length + 1 : Nat) : Int) < ((TT.body.kids.length + 1 : Nat) : Int) := Int.tmod_lt_of_pos _ (by omega)
  obtain ⟨k, hk⟩ : ∃ k : Nat, cut.tmod ((TT.body.kids.length + 1 : Nat) : Int) = (k : Int) := ⟨(cut.tmod ((TT.body.kids.length + 1 : Nat) : Int)).toNat, by omega⟩
  rw [hk] at hk0 hk1 ⊢
  have hkl2 : k ≤ TT.body.kids.length := by omega
  clear hk hk0 hk1 hw1 hw2
  generalize hl : TT.body.kids = l at *
  refine kAutoB ?_
  apply RL.pur; (exact OpP.sliceTo kEv kEv (by omega)); exact rfl
  refine kAutoB ?_
  (apply RL.build (r := .agg #[.int .u8 47, .int .i64 0, .string sE, .slice A7 k c7]); exact rfl; exact kEvl; (intro w; kernel_rfl); exact rfl)
  (apply RL.alloc; exact rfl; exact rfl; intro b15)
  (apply RL.storeA; exact kEv; exact kEv; exact kTake; exact rfl; exact rfl; exact rfl)
  refine kAutoB ?_
  apply RL.pur; (exact OpP.sliceFrom kEv kEv hkl2); exact rfl
  generalize hD : (if c7 = k then A7 else A7.map fun a => a.add (k * 4)) = D
  (apply RL.build (r := .agg #[.int .u8 47, .int .i64 0, .string sE, .slice D (l.length - k) (c7 - k)]); exact rfl; exact kEvl; (intro w; kernel_rfl); exact rfl)
  (apply RL.alloc; exact rfl; exact rfl; intro b16)
  (apply RL.storeA; exact kEv; exact kEv; exact kTake; exact rfl; exact rfl; exact rfl)
  refine kAutoB ?_
  (apply RL.build (r := .agg #[.int .u8 1, .int .i64 7, .string sE, .slice none 0 0]); exact rfl; exact kEvl; (intro w; kernel_rfl); exact rfl)
  (apply RL.alloc; exact rfl; exact rfl; intro b17)
  (apply RL.storeA; exact kEv; exact kEv; exact kTake; exact rfl; exact rfl; exact rfl)
  refine kAutoB ?_
  refine CJ.gives (M' := cel b17 50 [.int .u8 1, .int .i64 7, .string sE, .slice none 0 0] :: cel b16 50 [.int .u8 47, .int .i64 0, .string sE, .slice D (l.length - k) (c7 - k)] :: cel b15 50 [.int .u8 47, .int .i64 0, .string sE, .slice A7 k c7] :: rcel b8 29 _ :: rcel b6 25 _ :: F) (Gives.refl _) ?_
  refine CJ.cut (σ := Nat × Nat) (fun _ => True)
    (fun s => [(19, .pointer (some ⟨s.2, 0, none⟩)), (18, .pointer (some ⟨s.1, 0, none⟩)), (17, .pointer (some ⟨b17, 0, none⟩)), (16, .pointer (some ⟨b16, 0, none⟩)), (15, .pointer (some ⟨b15, 0, none⟩)), (14, .int .i64 (k : Int)), (13, .slice A7 l.length c7), (8, .pointer (some ⟨b8, 0, none⟩)), (6, .pointer (some ⟨b6, 0, none⟩)), (5, .bool truth), (3, inV), (1, .int .i64 (tn : Int))])
    (fun s => cel s.2 50 [.int .u8 47, .int .i64 0, .string sE, .slice D (l.length - k) (c7 - k)] :: cel s.1 50 [.int .u8 47, .int .i64 0, .string sE, .slice A7 k c7] :: cel b17 50 [.int .u8 1, .int .i64 7, .string sE, .slice none 0 0] :: cel b16 50 [.int .u8 47, .int .i64 0, .string sE, .slice D (l.length - k) (c7 - k)] :: cel b15 50 [.int .u8 47, .int .i64 0, .string sE, .slice A7 k c7] :: rcel b8 29 [.slice A3 m.arrays.length c3, .slice A4 m.shared.length c4] :: rcel b6 25 [.slice A1 p.shared.length c1, .slice (some ⟨bt, ot, none⟩) p.tasks.length c2] :: F) ?_ ?_
  · (refine CJ.draws mixed 6 [cel b16 _ _, cel b15 _ _] (by exact kGives) (dom_of (by kernel_rfl)) ?_)
    ((first | refine kAjB 0 ?_ | refine kAjS 0 ?_); (first | refine kAjB 1 ?_ | refine kAjS 1 ?_))
    (refine AJ.loud2 (i := 2) (j := 3) (by kernel_rfl) (by kernel_rfl) rfl (by kernel_rfl) (by kernel_rfl) rfl rfl rfl rfl rfl rfl rfl rfl rfl rfl rfl rfl (OpS.alloc (P := Tryz.prog) (vs := [.int .u8 0, .int .i64 0, .string ⟨#[]⟩, .slice none 0 0]) rfl) (OpS.alloc (P := Tryz.prog) (vs := [.int .u8 0, .int .i64 0, .string ⟨#[]⟩, .slice none 0 0]) rfl) ?_ ?_ ?_ ?_)
    · rintro _ _ ⟨b18, rfl, rfl⟩
      refine ⟨by exact kGives, ?_⟩
      (refine AJ.loud1 (i := 3) (by kernel_rfl) (by kernel_rfl) rfl (by kernel_rfl) (by kernel_rfl) rfl rfl rfl rfl rfl rfl (OpS.alloc (P := Tryz.prog) (vs := [.int .u8 0, .int .i64 0, .string ⟨#[]⟩, .slice none 0 0]) rfl) ?_ ?_)
      rotate_left
      · rintro _ _ h; exact h.elim
      rintro _ _ ⟨b19, rfl, rfl⟩
      refine ⟨by exact kGives, ?_⟩
      (refine AJ.loud0 (i := 4) (by kernel_rfl) (by kernel_rfl) rfl (by kernel_rfl) (by kernel_rfl) rfl rfl rfl rfl (OpS.storeA (q := 4) kEv kEv (by exact rfl) (by simp [Value.oneCell']) kTake (by exact Nat.le_refl 4)) ?_ ?_)
      rotate_left
      · rintro _ _ h; exact h.elim
      rintro _ _ rfl
      refine ⟨by exact kGives, ?_⟩
      (refine AJ.loud0 (i := 5) (by kernel_rfl) (by kernel_rfl) rfl (by kernel_rfl) (by kernel_rfl) rfl rfl rfl rfl (OpS.storeA (q := 4) kEv kEv (by exact rfl) (by simp [Value.oneCell']) kTake (by exact Nat.le_refl 4)) ?_ ?_)
      rotate_left
      · rintro _ _ h; exact h.elim
      rintro _ _ rfl
      refine ⟨by exact kGives, ?_⟩
      (refine AJ.done (by kernel_rfl) (by kernel_rfl) rfl (by kernel_rfl) ?_)
      exact XJ.meet (b18, b19) trivial (by exact kEsub) (by exact kGives)
    · rintro _ _ h; exact h.elim
    · rintro _ _ ⟨b19, rfl, rfl⟩
      refine ⟨by exact kGives, ?_⟩
      (refine AJ.loud1 (i := 2) (by kernel_rfl) (by kernel_rfl) rfl (by kernel_rfl) (by kernel_rfl) rfl rfl rfl rfl rfl rfl (OpS.alloc (P := Tryz.prog) (vs := [.int .u8 0, .int .i64 0, .string ⟨#[]⟩, .slice none 0 0]) rfl) ?_ ?_)
      rotate_left
      · rintro _ _ h; exact h.elim
      rintro _ _ ⟨b18, rfl, rfl⟩
      refine ⟨by exact kGives, ?_⟩
      (refine AJ.loud0 (i := 4) (by kernel_rfl) (by kernel_rfl) rfl (by kernel_rfl) (by kernel_rfl) rfl rfl rfl rfl (OpS.storeA (q := 4) kEv kEv (by exact rfl) (by simp [Value.oneCell']) kTake (by exact Nat.le_refl 4)) ?_ ?_)
      rotate_left
      · rintro _ _ h; exact h.elim
      rintro _ _ rfl
      refine ⟨by exact kGives, ?_⟩
      (refine AJ.loud0 (i := 5) (by kernel_rfl) (by kernel_rfl) rfl (by kernel_rfl) (by kernel_rfl) rfl rfl rfl rfl (OpS.storeA (q := 4) kEv kEv (by exact rfl) (by simp [Value.oneCell']) kTake (by exact Nat.le_refl 4)) ?_ ?_)
      rotate_left
      · rintro _ _ h; exact h.elim
      rintro _ _ rfl
      refine ⟨by exact kGives, ?_⟩
      (refine AJ.done (by kernel_rfl) (by kernel_rfl) rfl (by kernel_rfl) ?_)
      exact XJ.meet (b18, b19) trivial (by exact kEsub) (by exact kGives)
    · rintro _ _ h; exact h.elim
  · rintro ⟨b18, b19⟩ _
    simp only
    refine kAutoB ?_
    refine CJ.cut (σ := Unit) (fun _ => True)
      (fun _ => [(19, .pointer (some ⟨b19, 0, none⟩)), (18, .pointer (some ⟨b18, 0, none⟩)), (17, .pointer (some ⟨b17, 0, none⟩)), (14, .int .i64 (k : Int)), (13, .slice A7 l.length c7), (8, .pointer (some ⟨b8, 0, none⟩)), (6, .pointer (some ⟨b6, 0, none⟩)), (3, inV), (1, .int .i64 (tn : Int))])
      (fun _ => cel b19 50 [.int .u8 47, .int .i64 0, .string sE, .slice (if truth then D else A7) (if truth then l.length - k else k) (if truth then c7 - k else c7)] :: cel b18 50 [.int .u8 47, .int .i64 0, .string sE, .slice (if truth then A7 else D) (if truth then k else l.length - k) (if truth then c7 else c7 - k)] :: cel b17 50 [.int .u8 1, .int .i64 (if truth then 7 else 0), .string sE, .slice none 0 0] :: rcel b8 29 [.slice A3 m.arrays.length c3, .slice A4 m.shared.length c4] :: rcel b6 25 [.slice A1 p.shared.length c1, .slice (some ⟨bt, ot, none⟩) p.tasks.length c2] :: F) ?_ ?_
    · cases truth
      case true =>
        refine kAutoB ?_
        exact XJ.meet () trivial (by exact kEsub) (by exact kGives)
      case false =>
        refine kAutoB ?_
        (apply RL.store; exact kEv; exact kEv; exact kTake; exact rfl; exact rfl; exact rfl)
        refine kAutoB ?_
        (refine CJ.draws mixed 4 [cel b16 _ _, cel b15 _ _] (by exact kGives) (dom_of (by kernel_rfl)) ?_)
        ((first | refine kAjB 0 ?_ | refine kAjS 0 ?_); (first | refine kAjB 1 ?_ | refine kAjS 1 ?_))
        (refine AJ.loud0 (i := 2) (by kernel_rfl) (by kernel_rfl) rfl (by kernel_rfl) (by kernel_rfl) rfl rfl rfl rfl (OpS.storeA (q := 4) kEv kEv (by exact rfl) (by simp [Value.oneCell']) (b := b18) kTake (by exact Nat.le_refl 4)) ?_ ?_)
        rotate_left
        · rintro _ _ h; exact h.elim
        rintro _ _ rfl
        refine ⟨by exact kGives, ?_⟩
        (refine AJ.loud0 (i := 3) (by kernel_rfl) (by kernel_rfl) rfl (by kernel_rfl) (by kernel_rfl) rfl rfl rfl rfl (OpS.storeA (q := 4) kEv kEv (by exact rfl) (by simp [Value.oneCell']) (b := b19) kTake (by exact Nat.le_refl 4)) ?_ ?_)
        rotate_left
        · rintro _ _ h; exact h.elim
        rintro _ _ rfl
        refine ⟨by exact kGives, ?_⟩
        (refine AJ.done (by kernel_rfl) (by kernel_rfl) rfl (by kernel_rfl) ?_)
        refine kAutoB ?_
        exact XJ.meet () trivial (by exact kEsub) (by exact kGives)
    · rintro ⟨⟩ _
      obtain ⟨rowsT, hrl, hrT, hrR⟩ := hts.ex
      have hq1 : ∀ q ∈ rowsT, ∀ u ∈ q, u.oneCell' = true := fun q hq => by
        obtain ⟨i, hi, rfl⟩ := List.getElem_of_mem hq
        exact (hrR i (p.tasks[i]'(by omega)) _ (by simp [show i < p.tasks.length by omega]) (by simp [hi])).cells.2
      have hNa : NodeR w0 (blockN (if truth then l.take k else l.drop k)) [.int .u8 47, .int .i64 0, .string sE, .slice (if truth then A7 else D) (if truth then k else l.length - k) (if truth then c7 else c7 - k)] := by
        subst hD
        cases truth
        · exact (hN7.drop k (by omega)).node (by simp) (by simp; omega) 47 0 sE
        · exact (hN7.take k).node (by simp; omega) (by simp; omega) 47 0 sE
      have hNb : NodeR w0 (blockN (if truth then l.drop k else l.take k)) [.int .u8 47, .int .i64 0, .string sE, .slice (if truth then D else A7) (if truth then l.length - k else k) (if truth then c7 - k else c7)] := by
        subst hD
        cases truth
        · exact (hN7.take k).node (by simp; omega) (by simp; omega) 47 0 sE
        · exact (hN7.drop k (by omega)).node (by simp) (by simp; omega) 47 0 sE
      generalize (if truth then A7 else D) = Aa, (if truth then k else l.length - k) = na, (if truth then c7 else c7 - k) = ca, (if truth then D else A7) = Ab, (if truth then l.length - k else k) = nb, (if truth then c7 - k else c7) = cb at hNa hNb ⊢
      refine kAutoB ?_
      (apply RL.alloc; exact rfl; exact rfl; intro b20)
      (apply RL.storeA; exact kEv; exact kEv; exact kTake; exact rfl; exact rfl; exact rfl)
      refine kAutoB ?_
      (apply RL.buildSlice; exact rfl; exact kEvl; exact rfl; (intro w; kernel_rfl); exact rfl; intro b67)
      refine RL.gives (row_of_cel (n := 0) (sz := 8) rfl (by simp) (by decide) _) ?_
      refine kAutoB ?_
      refine RL.append (by exact kEv) (by exact kEv) (Takes.here _ _) (fun h _ => rows_src hrT hq1 hrl) (by simp only [maxLen]; omega) (by omega) rfl (fun A8 c8 => ?_)
      rw [Nat.zero_add, List.nil_append]
      refine kAutoB ?_
      (apply RL.store; exact kEv; exact kEv; exact kTake; exact rfl; exact rfl; exact rfl)
      refine kAutoB ?_
      refine CJ.gives (M' := cel b20 25 [.slice A1 p.shared.length c1, .slice A8 p.tasks.length c8] :: row 52 8 (.slice A8 p.tasks.length c8) p.tasks.length rowsT.flatten :: _) (Gives.refl _) ?_
      refine CJ.factS (p := ∃ b, A8 = some ⟨b, 0, none⟩) (fun w h mm sa => by
        obtain ⟨b, c, e⟩ := row_ptrN (Takes.there (Takes.here _ _)) mm (by omega)
        simp only [Value.slice.injEq] at e
        exact ⟨b, e.1⟩) ?_
      rintro ⟨bq, rfl⟩
      generalize htv : (if truth = true then (7 : Int) else 0) = tv
      obtain ⟨rows7, hl7, hr7, hR7⟩ := hN7.ex
      have hr7d := hr7.drop (k := k) (c := c7) (by omega)
      rw [hD] at hr7d
      have h71 : ∀ q ∈ rows7.drop k, ∀ u ∈ q, u.oneCell' = true := fun q hq => by
        obtain ⟨i, hi, rfl⟩ := List.getElem_of_mem (List.mem_of_mem_drop hq)
        exact (hR7 i (l[i]'(by omega)) _ (by simp [show i < l.length by omega]) (by simp [hi])).cells.2
      (refine CJ.draws mixed 14 [cel b20 _ _, cel b19 _ _, cel b18 _ _, cel b17 _ _] (by exact kGives) (dom_of (by kernel_rfl)) ?_)
      ((first | refine kAjB 0 ?_ | refine kAjS 0 ?_); (first | refine kAjB 1 ?_ | refine kAjS 1 ?_); (first | refine kAjB 2 ?_ | refine kAjS 2 ?_); (first | refine kAjB 3 ?_ | refine kAjS 3 ?_); (first | refine kAjB 4 ?_ | refine kAjS 4 ?_); (first | refine kAjB 5 ?_ | refine kAjS 5 ?_))
      ((first | refine kAjB 9 ?_ | refine kAjS 9 ?_); (first | refine kAjB 10 ?_ | refine kAjS 10 ?_))
      (apply AJ.pur (i := 11); exact rfl; exact rfl; exact rfl; exact rfl; exact rfl; exact rfl; exact rfl; exact rfl; exact rfl; exact OpP.sliceFrom kEv kEv hkl2)
      rw [hD]
      (refine AJ.loud1 (i := 6) (by kernel_rfl) (by kernel_rfl) rfl (by kernel_rfl) (by kernel_rfl) rfl rfl rfl rfl rfl rfl (OpS.buildSlice (E := 50) ([.int .u8 1, .int .i64 tv, .string sE, .slice none 0 0] ++ [.int .u8 47, .int .i64 0, .string sE, .slice Aa na ca] ++ [.int .u8 47, .int .i64 0, .string sE, .slice Ab nb cb]) rfl (by exact kEvl) (fun w => by kernel_rfl)) ?_ ?_)
      rotate_left
      · rintro _ _ h; exact h.elim
      rintro _ _ ⟨b78, rfl, rfl⟩
      refine ⟨by exact kGives, ?_⟩
      (apply AJ.pur (i := 7); exact rfl; exact rfl; exact rfl; exact rfl; exact rfl; exact rfl; exact rfl; exact rfl; exact rfl; (refine OpP.build (xs := [.const (.int .u8 41), .tmp 78]) (vs := [.int .u8 41, .slice (some ⟨b78, 0, none⟩) 3 3]) (r := .agg (nV 41 0 sE b78 3).toArray) (by exact kEvl) rfl (fun w => by kernel_rfl)))
      (refine AJ.loud1 (i := 8) (by kernel_rfl) (by kernel_rfl) rfl (by kernel_rfl) (by kernel_rfl) rfl rfl rfl rfl rfl rfl (OpS.buildSlice (E := 50) (nV 41 0 sE b78 3) rfl (by exact kEvl) (fun w => by kernel_rfl)) ?_ ?_)
      rotate_left
      · rintro _ _ h; exact h.elim
      rintro _ _ ⟨b80, rfl, rfl⟩
      refine ⟨by exact kGives, ?_⟩
      refine AJ.gives (row_of_cel (n := 1) (sz := 4) rfl (by simp [nV, Value.oneCell']) (by decide) _) (by exact kGives) ?_
      (refine AJ.loud1 (i := 12) (by kernel_rfl) (by kernel_rfl) rfl (by kernel_rfl) (by kernel_rfl) rfl rfl rfl rfl rfl rfl (OpS.append (by exact kEv) (by exact kEv) (Takes.here _ _) (fun h _ => rows_src hr7d h71 (by simp [hl7])) (by simp only [maxLen]; omega) (by omega)) ?_ ?_)
      rotate_left
      · rintro _ _ h; exact h.elim
      rintro _ _ ⟨⟨A9, c9, rfl⟩, rfl⟩
      refine ⟨by exact kGives, ?_⟩
      (apply AJ.pur (i := 13); exact rfl; exact rfl; exact rfl; exact rfl; exact rfl; exact rfl; exact rfl; exact rfl; exact rfl; (refine OpP.build (xs := [.const (.int .u8 47), .tmp 84]) (vs := [.int .u8 47, .slice A9 (1 + (l.length - k)) c9]) (r := .agg #[.int .u8 47, .int .i64 0, .string sE, .slice A9 (1 + (l.length - k)) c9]) (by exact kEvl) rfl (fun w => by kernel_rfl)))
      (refine AJ.tail (by kernel_rfl) (by kernel_rfl) rfl (by kernel_rfl) (by kernel_rfl) (by kernel_rfl) ?_)
      refine kAutoB ?_
      apply RL.pur; (apply OpP.indexAddr; exact kEv; exact kEv; exact htn); exact rfl
      refine kAutoB ?_
      refine RL.s0 (OpS.rowPut (z := 4) (vs := [.int .u8 47, .int .i64 0, .string sE, .slice A9 (1 + (l.length - k)) c9]) kEv kEv (by exact rfl) (by simp [Value.oneCell']) (Takes.there (Takes.there (Takes.there (Takes.here _ _)))) (by omega)) ?_ (fun _ _ h => h.elim)
      rintro _ _ rfl
      refine kAutoB ?_
      have hQ : ∀ (w : World) (h : Frag) (X : List HProp), star (row 52 8 (.slice (some ⟨bq, 0, none⟩) p.tasks.length c8) p.tasks.length (setSeg rowsT.flatten [.int .u8 47, .int .i64 0, .string sE, .slice A9 (1 + (l.length - k)) c9] (0 + tn * 8 + 4)) :: row 50 4 (.slice A9 (1 + (l.length - k)) c9) (1 + (l.length - k)) (nV 41 0 sE b78 3 ++ (rows7.drop k).flatten) :: cel b78 50 ([.int .u8 1, .int .i64 tv, .string sE, .slice none 0 0] ++ [.int .u8 47, .int .i64 0, .string sE, .slice Aa na ca] ++ [.int .u8 47, .int .i64 0, .string sE, .slice Ab nb cb]) :: X) h →
          Go.Proofs.YtgmapenlgammfaaGreatDoor.Sat w0 w h → PrgR w (setBody p tn (splitB truth l k)) [.slice A1 p.shared.length c1, .slice (some ⟨bq, 0, none⟩) p.tasks.length c8] := by
        intro w h X mm sa
        have hb := sa.below
        have hcap9 := row_cap (Takes.there (Takes.here _ _)) mm
        have hcap8 := row_cap (Takes.here _ _) mm
        obtain ⟨g9, c9', e9⟩ := row_ptrN (Takes.there (Takes.here _ _)) mm (by omega)
        simp only [Value.slice.injEq] at e9
        obtain ⟨rfl, -⟩ := e9
        have h1 := rowN_base (Takes.here _ _) mm sa
        rw [show 0 + tn * 8 + 4 = tn * 8 + 4 by omega] at h1
        refine split_prog htn hcs hcap8 (hr1.up hb) hrl (fun i m r e1 e2 => (hrR i m r e1 e2).up hb) ?_ h1
        exact split_body (by omega) hkl2 hr7.len (fun i m r e1 e2 => (hR7 i m r e1 e2).up hb) (split_node htv (hNa.up hb) (hNb.up hb) (cel_base (Takes.there (Takes.there (Takes.here _ _))) mm sa)) hcap9 (rowN_base (Takes.there (Takes.here _ _)) mm sa)
      have hfq : Fit (setBody p tn (splitB truth l k)) := split_fit hf (by
        have h1 := split_size truth l k
        have h2 := Node.size_eq TT.body
        rw [hl] at h2
        omega)
      (apply RL.callAll; exact kEv; exact inferInstance; exact kEvl; exact rfl; exact (fun w h mm sa => ok_spec w (hT.sat sa) _ _ hfq (hQ w h _ mm sa)); exact rfl)
      rintro _ _ ⟨rfl, rfl⟩
      cases e5 : okB (setBody p tn (splitB truth l k))
      case false =>
        refine kAutoB ?_
        exact XJ.ret1 rfl rfl [] (by (repeat (first | exact Gives.refl _ | apply Gives.drop | apply Gives.skipApp))) ⟨rfl, rfl⟩
      refine kAutoB ?_
      (apply RL.callAll; exact kEv; exact inferInstance; exact kEvl; exact rfl; exact (fun w h mm sa => Great16_spec w _ _ (hQ w h _ mm sa) m _ (hM0.up sa.below) hL.shared.1 (fun q hq => (hL.each q hq).1) inV inp (hin.up sa.below)); exact rfl)
      rintro _ _ ⟨rfl, rfl⟩
      cases e6 : greatL (setBody p tn (splitB truth l k)) m inp
      case true =>
        refine kAutoB ?_
        exact XJ.ret1 rfl rfl [] (by (repeat (first | exact Gives.refl _ | apply Gives.drop | apply Gives.skipApp))) ⟨rfl, rfl⟩
      refine kAutoB ?_
      have hbk : TT.body = .mk 47 TT.body.num TT.body.name l := by
        rw [← hl]
        obtain ⟨kd, nu, nm, ks, e⟩ : ∃ kd nu nm ks, TT.body = .mk kd nu nm ks := by cases TT.body; exact ⟨_, _, _, _, rfl⟩
        rw [e] at q4 ⊢
        rw [(block_cases q4).1]
        rfl
      have htsk : tsk p tn = TT := by
        unfold tsk
        rw [Int.toNat_natCast, List.getD_eq_getElem?_getD, List.getElem?_eq_getElem htn, ← hTT]
        rfl
      have hsq := hr.split inp 3000 (by omega) truth k TT.body.num TT.body.name l (by rw [htsk]; exact hbk) (by rw [Int.toNat_natCast]; exact e5)
      rw [Int.toNat_natCast, show (3000 : Int) + 1 = 3001 from rfl] at hsq
      have hsz := hr.sizes hf h32 hi32 hs 3000 (by omega)
      generalize hrr : jobAll p tn m inp 3000 = r at hsq hsz
      refine CJ.gives (M' := row 52 8 (.slice (some ⟨bq, 0, none⟩) p.tasks.length c8) p.tasks.length (setSeg rowsT.flatten [.int .u8 47, .int .i64 0, .string sE, .slice A9 (1 + (l.length - k)) c9] (0 + tn * 8 + 4)) :: row 50 4 (.slice A9 (1 + (l.length - k)) c9) (1 + (l.length - k)) (nV 41 0 sE b78 3 ++ (rows7.drop k).flatten) :: cel b78 50 ([.int .u8 1, .int .i64 tv, .string sE, .slice none 0 0] ++ [.int .u8 47, .int .i64 0, .string sE, .slice Aa na ca] ++ [.int .u8 47, .int .i64 0, .string sE, .slice Ab nb cb]) :: cel b20 25 [.slice A1 p.shared.length c1, .slice (some ⟨bq, 0, none⟩) p.tasks.length c8] :: rcel b8 29 [.slice A3 m.arrays.length c3, .slice A4 m.shared.length c4] :: rcel b6 25 [.slice A1 p.shared.length c1, .slice (some ⟨bt, ot, none⟩) p.tasks.length c2] :: F) (Gives.cons (Takes.here _ _) (Gives.cons (Takes.here _ _) (Gives.cons (Takes.here _ _) (Gives.cons (Takes.here _ _) (Gives.drop (Gives.drop (Gives.drop (Gives.refl _)))))))) ?_
      refine CJ.cut (σ := Nat × Nat × Value × Value × Option Addr × Nat × Value × Value × Option Addr × Nat × List HProp × List HProp)
        (fun s => (∀ b w h F, star (s.2.2.2.2.2.2.2.2.2.2.1 ++ F) h → Go.Proofs.YtgmapenlgammfaaGreatDoor.Sat b w h → ResR w [s.2.2.1, s.2.2.2.1, .slice s.2.2.2.2.1 r.out.length s.2.2.2.2.2.1, .int .i64 r.read, .int .i64 r.steps, .int .i64 r.err] r) ∧
          (∀ b w h F, star (s.2.2.2.2.2.2.2.2.2.2.2 ++ F) h → Go.Proofs.YtgmapenlgammfaaGreatDoor.Sat b w h → ResR w [s.2.2.2.2.2.2.1, s.2.2.2.2.2.2.2.1, .slice s.2.2.2.2.2.2.2.2.1 r.out.length s.2.2.2.2.2.2.2.2.2.1, .int .i64 r.read, .int .i64 ((r.steps + 1 : Nat) : Int), .int .i64 r.err] { r with steps := r.steps + 1 }))
        (fun s => [(22, .pointer (some ⟨s.2.1, 0, none⟩)), (21, .pointer (some ⟨s.1, 0, none⟩))])
        (fun s => cel s.2.1 37 [s.2.2.2.2.2.2.1, s.2.2.2.2.2.2.2.1, .slice s.2.2.2.2.2.2.2.2.1 r.out.length s.2.2.2.2.2.2.2.2.2.1, .int .i64 r.read, .int .i64 ((r.steps + 1 : Nat) : Int), .int .i64 r.err] :: cel s.1 37 [s.2.2.1, s.2.2.2.1, .slice s.2.2.2.2.1 r.out.length s.2.2.2.2.2.1, .int .i64 r.read, .int .i64 r.steps, .int .i64 r.err] :: (s.2.2.2.2.2.2.2.2.2.2.2 ++ (s.2.2.2.2.2.2.2.2.2.2.1 ++ (row 52 8 (.slice (some ⟨bq, 0, none⟩) p.tasks.length c8) p.tasks.length (setSeg rowsT.flatten [.int .u8 47, .int .i64 0, .string sE, .slice A9 (1 + (l.length - k)) c9] (0 + tn * 8 + 4)) :: row 50 4 (.slice A9 (1 + (l.length - k)) c9) (1 + (l.length - k)) (nV 41 0 sE b78 3 ++ (rows7.drop k).flatten) :: cel b78 50 ([.int .u8 1, .int .i64 tv, .string sE, .slice none 0 0] ++ [.int .u8 47, .int .i64 0, .string sE, .slice Aa na ca] ++ [.int .u8 47, .int .i64 0, .string sE, .slice Ab nb cb]) :: cel b20 25 [.slice A1 p.shared.length c1, .slice (some ⟨bq, 0, none⟩) p.tasks.length c8] :: rcel b8 29 [.slice A3 m.arrays.length c3, .slice A4 m.shared.length c4] :: rcel b6 25 [.slice A1 p.shared.length c1, .slice (some ⟨bt, ot, none⟩) p.tasks.length c2] :: F)))) ?_ ?_
      · (refine CJ.draws mixed 14 [cel b20 _ _, rcel b8 _ _, rcel b6 _ _] (by exact kGives) (dom_of (by kernel_rfl)) ?_)
        ((first | refine kAjB 0 ?_ | refine kAjS 0 ?_); (first | refine kAjB 1 ?_ | refine kAjS 1 ?_); (first | refine kAjB 2 ?_ | refine kAjS 2 ?_); (first | refine kAjB 3 ?_ | refine kAjS 3 ?_))
        ((first | refine kAjB 5 ?_ | refine kAjS 5 ?_); (first | refine kAjB 6 ?_ | refine kAjS 6 ?_); (first | refine kAjB 7 ?_ | refine kAjS 7 ?_); (first | refine kAjB 8 ?_ | refine kAjS 8 ?_))
        refine AJ.three (kLoud 4 rfl (OpS.callAll (fun w h mm sa => Job_spec w (hT.sat sa) p _ hf (hR.up sa.below) tn m _ (hM0.up sa.below) h32 inV inp (hin.up sa.below) hi32 (by omega) 3000 (by omega)) (by exact kEv) inferInstance (by exact kEvl) (by exact rfl)) (by rintro _ _ h; first | exact h.elim | exact h) ?_) (kLoud 10 rfl (OpS.alloc (P := Tryz.prog) (vs := [.slice none 0 0, .slice none 0 0, .slice none 0 0, .int .i64 0, .int .i64 0, .int .i64 0]) rfl) (by rintro _ _ h; first | exact h.elim | exact h) ?_) (kLoud 11 rfl (OpS.alloc (P := Tryz.prog) (vs := [.slice none 0 0, .slice none 0 0, .slice none 0 0, .int .i64 0, .int .i64 0, .int .i64 0]) rfl) (by rintro _ _ h; first | exact h.elim | exact h) ?_)
        · rintro _ _ ⟨NJ1, ⟨rcs, rfl, hrc⟩, rfl⟩
          refine ⟨by (repeat (first | exact Gives.nil _ | (apply Gives.cons; (focus (exact Takes.here _ _))) | apply Gives.drop | apply Gives.skipApp)), ?_⟩
          rw [hrr] at hrc
          refine AJ.three (kLoud 9 rfl (OpS.callAll (fun w h mm sa => Job_spec w (hT.sat sa) _ _ hfq (hQ w h _ (mm.skip) sa) tn m _ (hM0.up sa.below) h32 inV inp (hin.up sa.below) hi32 (by omega) 3001 (by omega)) (by exact kEv) inferInstance (by exact kEvl) (by exact rfl)) (by rintro _ _ h; first | exact h.elim | exact h) ?_) (kLoud 10 rfl (OpS.alloc (P := Tryz.prog) (vs := [.slice none 0 0, .slice none 0 0, .slice none 0 0, .int .i64 0, .int .i64 0, .int .i64 0]) rfl) (by rintro _ _ h; first | exact h.elim | exact h) ?_) (kLoud 11 rfl (OpS.alloc (P := Tryz.prog) (vs := [.slice none 0 0, .slice none 0 0, .slice none 0 0, .int .i64 0, .int .i64 0, .int .i64 0]) rfl) (by rintro _ _ h; first | exact h.elim | exact h) ?_)
          · rintro _ _ ⟨NJ2, ⟨scs, rfl, hsc⟩, rfl⟩
            refine ⟨by (repeat (first | exact Gives.nil _ | (apply Gives.cons; (focus (exact Takes.here _ _))) | apply Gives.drop | apply Gives.skipApp)), ?_⟩
            rw [hsq] at hsc
            refine AJ.two (kLoud 10 rfl (OpS.alloc (P := Tryz.prog) (vs := [.slice none 0 0, .slice none 0 0, .slice none 0 0, .int .i64 0, .int .i64 0, .int .i64 0]) rfl) (by rintro _ _ h; first | exact h.elim | exact h) ?_) (kLoud 11 rfl (OpS.alloc (P := Tryz.prog) (vs := [.slice none 0 0, .slice none 0 0, .slice none 0 0, .int .i64 0, .int .i64 0, .int .i64 0]) rfl) (by rintro _ _ h; first | exact h.elim | exact h) ?_)
            · rintro _ _ ⟨b21, rfl, rfl⟩
              refine ⟨by (repeat (first | exact Gives.nil _ | (apply Gives.cons; (focus (exact Takes.here _ _))) | apply Gives.drop | apply Gives.skipApp)), ?_⟩
              refine AJ.one (kLoud 11 rfl (OpS.alloc (P := Tryz.prog) (vs := [.slice none 0 0, .slice none 0 0, .slice none 0 0, .int .i64 0, .int .i64 0, .int .i64 0]) rfl) (by rintro _ _ h; first | exact h.elim | exact h) ?_)
              · rintro _ _ ⟨b22, rfl, rfl⟩
                refine ⟨by (repeat (first | exact Gives.nil _ | (apply Gives.cons; (focus (exact Takes.here _ _))) | apply Gives.drop | apply Gives.skipApp)), ?_⟩
                refine AJ.factS (p := ∃ u v A c, rcs = [u, v, .slice A r.out.length c, .int .i64 r.read, .int .i64 r.steps, .int .i64 r.err] ∧ u.oneCell' = true ∧ v.oneCell' = true) (fun w h mm sa => (hrc _ w h _ (mm.tail.tail.skip) sa).cells) ?_
                rintro ⟨u1, u2, B1, d1, rfl, ho1, ho2⟩
                refine AJ.factS (p := ∃ u v A c, scs = [u, v, .slice A r.out.length c, .int .i64 r.read, .int .i64 ((r.steps + 1 : Nat) : Int), .int .i64 r.err] ∧ u.oneCell' = true ∧ v.oneCell' = true) (fun w h mm sa => (hsc _ w h _ (mm.tail.tail) sa).cells) ?_
                rintro ⟨u3, u4, B2, d2, rfl, ho3, ho4⟩
                (refine AJ.loud0 (i := 12) (by kernel_rfl) (by kernel_rfl) rfl (by kernel_rfl) (by kernel_rfl) rfl rfl rfl rfl (OpS.storeA (q := 6) kEv kEv (by exact rfl) (res_one ho1 ho2) (Takes.there (Takes.here _ _)) (by exact Nat.le_refl 6)) ?_ ?_)
                rotate_left
                · rintro _ _ h; exact h.elim
                rintro _ _ rfl
                refine ⟨by (repeat (first | exact Gives.nil _ | (apply Gives.cons; (focus (exact Takes.here _ _))) | apply Gives.drop | apply Gives.skipApp)), ?_⟩
                (refine AJ.loud0 (i := 13) (by kernel_rfl) (by kernel_rfl) rfl (by kernel_rfl) (by kernel_rfl) rfl rfl rfl rfl (OpS.storeA (q := 6) kEv kEv (by exact rfl) (res_one ho3 ho4) (Takes.there (Takes.here _ _)) (by exact Nat.le_refl 6)) ?_ ?_)
                rotate_left
                · rintro _ _ h; exact h.elim
                rintro _ _ rfl
                refine ⟨by (repeat (first | exact Gives.nil _ | (apply Gives.cons; (focus (exact Takes.here _ _))) | apply Gives.drop | apply Gives.skipApp)), ?_⟩
                (refine AJ.done (by kernel_rfl) (by kernel_rfl) rfl (by kernel_rfl) ?_)
                exact XJ.meet (b21, b22, u1, u2, B1, d1, u3, u4, B2, d2, NJ1, NJ2) ⟨hrc, hsc⟩ (by exact kEsub) (Gives.refl _)
            · rintro _ _ ⟨b22, rfl, rfl⟩
              refine ⟨by (repeat (first | exact Gives.nil _ | (apply Gives.cons; (focus (exact Takes.here _ _))) | apply Gives.drop | apply Gives.skipApp)), ?_⟩
              refine AJ.one (kLoud 10 rfl (OpS.alloc (P := Tryz.prog) (vs := [.slice none 0 0, .slice none 0 0, .slice none 0 0, .int .i64 0, .int .i64 0, .int .i64 0]) rfl) (by rintro _ _ h; first | exact h.elim | exact h) ?_)
              · rintro _ _ ⟨b21, rfl, rfl⟩
                refine ⟨by (repeat (first | exact Gives.nil _ | (apply Gives.cons; (focus (exact Takes.here _ _))) | apply Gives.drop | apply Gives.skipApp)), ?_⟩
                refine AJ.factS (p := ∃ u v A c, rcs = [u, v, .slice A r.out.length c, .int .i64 r.read, .int .i64 r.steps, .int .i64 r.err] ∧ u.oneCell' = true ∧ v.oneCell' = true) (fun w h mm sa => (hrc _ w h _ (mm.tail.tail.skip) sa).cells) ?_
                rintro ⟨u1, u2, B1, d1, rfl, ho1, ho2⟩
                refine AJ.factS (p := ∃ u v A c, scs = [u, v, .slice A r.out.length c, .int .i64 r.read, .int .i64 ((r.steps + 1 : Nat) : Int), .int .i64 r.err] ∧ u.oneCell' = true ∧ v.oneCell' = true) (fun w h mm sa => (hsc _ w h _ (mm.tail.tail) sa).cells) ?_
                rintro ⟨u3, u4, B2, d2, rfl, ho3, ho4⟩
                (refine AJ.loud0 (i := 12) (by kernel_rfl) (by kernel_rfl) rfl (by kernel_rfl) (by kernel_rfl) rfl rfl rfl rfl (OpS.storeA (q := 6) kEv kEv (by exact rfl) (res_one ho1 ho2) (Takes.here _ _) (by exact Nat.le_refl 6)) ?_ ?_)
                rotate_left
                · rintro _ _ h; exact h.elim
                rintro _ _ rfl
                refine ⟨by (repeat (first | exact Gives.nil _ | (apply Gives.cons; (focus (exact Takes.here _ _))) | apply Gives.drop | apply Gives.skipApp)), ?_⟩
                (refine AJ.loud0 (i := 13) (by kernel_rfl) (by kernel_rfl) rfl (by kernel_rfl) (by kernel_rfl) rfl rfl rfl rfl (OpS.storeA (q := 6) kEv kEv (by exact rfl) (res_one ho3 ho4) (Takes.there (Takes.here _ _)) (by exact Nat.le_refl 6)) ?_ ?_)
                rotate_left
                · rintro _ _ h; exact h.elim
                rintro _ _ rfl
                refine ⟨by (repeat (first | exact Gives.nil _ | (apply Gives.cons; (focus (exact Takes.here _ _))) | apply Gives.drop | apply Gives.skipApp)), ?_⟩
                (refine AJ.done (by kernel_rfl) (by kernel_rfl) rfl (by kernel_rfl) ?_)
                exact XJ.meet (b21, b22, u1, u2, B1, d1, u3, u4, B2, d2, NJ1, NJ2) ⟨hrc, hsc⟩ (by exact kEsub) (Gives.refl _)
          · rintro _ _ ⟨b21, rfl, rfl⟩
            refine ⟨by (repeat (first | exact Gives.nil _ | (apply Gives.cons; (focus (exact Takes.here _ _))) | apply Gives.drop | apply Gives.skipApp)), ?_⟩
            refine AJ.two (kLoud 9 rfl (OpS.callAll (fun w h mm sa => Job_spec w (hT.sat sa) _ _ hfq (hQ w h _ (mm.tail.skip) sa) tn m _ (hM0.up sa.below) h32 inV inp (hin.up sa.below) hi32 (by omega) 3001 (by omega)) (by exact kEv) inferInstance (by exact kEvl) (by exact rfl)) (by rintro _ _ h; first | exact h.elim | exact h) ?_) (kLoud 11 rfl (OpS.alloc (P := Tryz.prog) (vs := [.slice none 0 0, .slice none 0 0, .slice none 0 0, .int .i64 0, .int .i64 0, .int .i64 0]) rfl) (by rintro _ _ h; first | exact h.elim | exact h) ?_)
            · rintro _ _ ⟨NJ2, ⟨scs, rfl, hsc⟩, rfl⟩
              refine ⟨by (repeat (first | exact Gives.nil _ | (apply Gives.cons; (focus (exact Takes.here _ _))) | apply Gives.drop | apply Gives.skipApp)), ?_⟩
              rw [hsq] at hsc
              refine AJ.one (kLoud 11 rfl (OpS.alloc (P := Tryz.prog) (vs := [.slice none 0 0, .slice none 0 0, .slice none 0 0, .int .i64 0, .int .i64 0, .int .i64 0]) rfl) (by rintro _ _ h; first | exact h.elim | exact h) ?_)
              · rintro _ _ ⟨b22, rfl, rfl⟩
                refine ⟨by (repeat (first | exact Gives.nil _ | (apply Gives.cons; (focus (exact Takes.here _ _))) | apply Gives.drop | apply Gives.skipApp)), ?_⟩
                refine AJ.factS (p := ∃ u v A c, rcs = [u, v, .slice A r.out.length c, .int .i64 r.read, .int .i64 r.steps, .int .i64 r.err] ∧ u.oneCell' = true ∧ v.oneCell' = true) (fun w h mm sa => (hrc _ w h _ (mm.tail.skip.tail) sa).cells) ?_
                rintro ⟨u1, u2, B1, d1, rfl, ho1, ho2⟩
                refine AJ.factS (p := ∃ u v A c, scs = [u, v, .slice A r.out.length c, .int .i64 r.read, .int .i64 ((r.steps + 1 : Nat) : Int), .int .i64 r.err] ∧ u.oneCell' = true ∧ v.oneCell' = true) (fun w h mm sa => (hsc _ w h _ (mm.tail) sa).cells) ?_
                rintro ⟨u3, u4, B2, d2, rfl, ho3, ho4⟩
                (refine AJ.loud0 (i := 12) (by kernel_rfl) (by kernel_rfl) rfl (by kernel_rfl) (by kernel_rfl) rfl rfl rfl rfl (OpS.storeA (q := 6) kEv kEv (by exact rfl) (res_one ho1 ho2) (Takes.there (Takes.appR _ (Takes.here _ _))) (by exact Nat.le_refl 6)) ?_ ?_)
                rotate_left
                · rintro _ _ h; exact h.elim
                rintro _ _ rfl
                refine ⟨by (repeat (first | exact Gives.nil _ | (apply Gives.cons; (focus (exact Takes.here _ _))) | apply Gives.drop | apply Gives.skipApp)), ?_⟩
                (refine AJ.loud0 (i := 13) (by kernel_rfl) (by kernel_rfl) rfl (by kernel_rfl) (by kernel_rfl) rfl rfl rfl rfl (OpS.storeA (q := 6) kEv kEv (by exact rfl) (res_one ho3 ho4) (Takes.there (Takes.here _ _)) (by exact Nat.le_refl 6)) ?_ ?_)
                rotate_left
                · rintro _ _ h; exact h.elim
                rintro _ _ rfl
                refine ⟨by (repeat (first | exact Gives.nil _ | (apply Gives.cons; (focus (exact Takes.here _ _))) | apply Gives.drop | apply Gives.skipApp)), ?_⟩
                (refine AJ.done (by kernel_rfl) (by kernel_rfl) rfl (by kernel_rfl) ?_)
                exact XJ.meet (b21, b22, u1, u2, B1, d1, u3, u4, B2, d2, NJ1, NJ2) ⟨hrc, hsc⟩ (by exact kEsub) (Gives.refl _)
            · rintro _ _ ⟨b22, rfl, rfl⟩
              refine ⟨by (repeat (first | exact Gives.nil _ | (apply Gives.cons; (focus (exact Takes.here _ _))) | apply Gives.drop | apply Gives.skipApp)), ?_⟩
              refine AJ.one (kLoud 9 rfl (OpS.callAll (fun w h mm sa => Job_spec w (hT.sat sa) _ _ hfq (hQ w h _ (mm.tail.tail.skip) sa) tn m _ (hM0.up sa.below) h32 inV inp (hin.up sa.below) hi32 (by omega) 3001 (by omega)) (by exact kEv) inferInstance (by exact kEvl) (by exact rfl)) (by rintro _ _ h; first | exact h.elim | exact h) ?_)
              · rintro _ _ ⟨NJ2, ⟨scs, rfl, hsc⟩, rfl⟩
                refine ⟨by (repeat (first | exact Gives.nil _ | (apply Gives.cons; (focus (exact Takes.here _ _))) | apply Gives.drop | apply Gives.skipApp)), ?_⟩
                rw [hsq] at hsc
                refine AJ.factS (p := ∃ u v A c, rcs = [u, v, .slice A r.out.length c, .int .i64 r.read, .int .i64 r.steps, .int .i64 r.err] ∧ u.oneCell' = true ∧ v.oneCell' = true) (fun w h mm sa => (hrc _ w h _ (mm.skip.tail.tail) sa).cells) ?_
                rintro ⟨u1, u2, B1, d1, rfl, ho1, ho2⟩
                refine AJ.factS (p := ∃ u v A c, scs = [u, v, .slice A r.out.length c, .int .i64 r.read, .int .i64 ((r.steps + 1 : Nat) : Int), .int .i64 r.err] ∧ u.oneCell' = true ∧ v.oneCell' = true) (fun w h mm sa => (hsc _ w h _ (mm) sa).cells) ?_
                rintro ⟨u3, u4, B2, d2, rfl, ho3, ho4⟩
                (refine AJ.loud0 (i := 12) (by kernel_rfl) (by kernel_rfl) rfl (by kernel_rfl) (by kernel_rfl) rfl rfl rfl rfl (OpS.storeA (q := 6) kEv kEv (by exact rfl) (res_one ho1 ho2) (Takes.appR _ (Takes.there (Takes.here _ _))) (by exact Nat.le_refl 6)) ?_ ?_)
                rotate_left
                · rintro _ _ h; exact h.elim
                rintro _ _ rfl
                refine ⟨by (repeat (first | exact Gives.nil _ | (apply Gives.cons; (focus (exact Takes.here _ _))) | apply Gives.drop | apply Gives.skipApp)), ?_⟩
                (refine AJ.loud0 (i := 13) (by kernel_rfl) (by kernel_rfl) rfl (by kernel_rfl) (by kernel_rfl) rfl rfl rfl rfl (OpS.storeA (q := 6) kEv kEv (by exact rfl) (res_one ho3 ho4) (Takes.there (Takes.appR _ (Takes.here _ _))) (by exact Nat.le_refl 6)) ?_ ?_)
                rotate_left
                · rintro _ _ h; exact h.elim
                rintro _ _ rfl
                refine ⟨by (repeat (first | exact Gives.nil _ | (apply Gives.cons; (focus (exact Takes.here _ _))) | apply Gives.drop | apply Gives.skipApp)), ?_⟩
                (refine AJ.done (by kernel_rfl) (by kernel_rfl) rfl (by kernel_rfl) ?_)
                exact XJ.meet (b21, b22, u1, u2, B1, d1, u3, u4, B2, d2, NJ1, NJ2) ⟨hrc, hsc⟩ (by exact kEsub) (Gives.refl _)
          · rintro _ _ ⟨b22, rfl, rfl⟩
            refine ⟨by (repeat (first | exact Gives.nil _ | (apply Gives.cons; (focus (exact Takes.here _ _))) | apply Gives.drop | apply Gives.skipApp)), ?_⟩
            refine AJ.two (kLoud 9 rfl (OpS.callAll (fun w h mm sa => Job_spec w (hT.sat sa) _ _ hfq (hQ w h _ (mm.tail.skip) sa) tn m _ (hM0.up sa.below) h32 inV inp (hin.up sa.below) hi32 (by omega) 3001 (by omega)) (by exact kEv) inferInstance (by exact kEvl) (by exact rfl)) (by rintro _ _ h; first | exact h.elim | exact h) ?_) (kLoud 10 rfl (OpS.alloc (P := Tryz.prog) (vs := [.slice none 0 0, .slice none 0 0, .slice none 0 0, .int .i64 0, .int .i64 0, .int .i64 0]) rfl) (by rintro _ _ h; first | exact h.elim | exact h) ?_)
            · rintro _ _ ⟨NJ2, ⟨scs, rfl, hsc⟩, rfl⟩
              refine ⟨by (repeat (first | exact Gives.nil _ | (apply Gives.cons; (focus (exact Takes.here _ _))) | apply Gives.drop | apply Gives.skipApp)), ?_⟩
              rw [hsq] at hsc
              refine AJ.one (kLoud 10 rfl (OpS.alloc (P := Tryz.prog) (vs := [.slice none 0 0, .slice none 0 0, .slice none 0 0, .int .i64 0, .int .i64 0, .int .i64 0]) rfl) (by rintro _ _ h; first | exact h.elim | exact h) ?_)
              · rintro _ _ ⟨b21, rfl, rfl⟩
                refine ⟨by (repeat (first | exact Gives.nil _ | (apply Gives.cons; (focus (exact Takes.here _ _))) | apply Gives.drop | apply Gives.skipApp)), ?_⟩
                refine AJ.factS (p := ∃ u v A c, rcs = [u, v, .slice A r.out.length c, .int .i64 r.read, .int .i64 r.steps, .int .i64 r.err] ∧ u.oneCell' = true ∧ v.oneCell' = true) (fun w h mm sa => (hrc _ w h _ (mm.tail.skip.tail) sa).cells) ?_
                rintro ⟨u1, u2, B1, d1, rfl, ho1, ho2⟩
                refine AJ.factS (p := ∃ u v A c, scs = [u, v, .slice A r.out.length c, .int .i64 r.read, .int .i64 ((r.steps + 1 : Nat) : Int), .int .i64 r.err] ∧ u.oneCell' = true ∧ v.oneCell' = true) (fun w h mm sa => (hsc _ w h _ (mm.tail) sa).cells) ?_
                rintro ⟨u3, u4, B2, d2, rfl, ho3, ho4⟩
                (refine AJ.loud0 (i := 12) (by kernel_rfl) (by kernel_rfl) rfl (by kernel_rfl) (by kernel_rfl) rfl rfl rfl rfl (OpS.storeA (q := 6) kEv kEv (by exact rfl) (res_one ho1 ho2) (Takes.here _ _) (by exact Nat.le_refl 6)) ?_ ?_)
                rotate_left
                · rintro _ _ h; exact h.elim
                rintro _ _ rfl
                refine ⟨by (repeat (first | exact Gives.nil _ | (apply Gives.cons; (focus (exact Takes.here _ _))) | apply Gives.drop | apply Gives.skipApp)), ?_⟩
                (refine AJ.loud0 (i := 13) (by kernel_rfl) (by kernel_rfl) rfl (by kernel_rfl) (by kernel_rfl) rfl rfl rfl rfl (OpS.storeA (q := 6) kEv kEv (by exact rfl) (res_one ho3 ho4) (Takes.there (Takes.appR _ (Takes.here _ _))) (by exact Nat.le_refl 6)) ?_ ?_)
                rotate_left
                · rintro _ _ h; exact h.elim
                rintro _ _ rfl
                refine ⟨by (repeat (first | exact Gives.nil _ | (apply Gives.cons; (focus (exact Takes.here _ _))) | apply Gives.drop | apply Gives.skipApp)), ?_⟩
                (refine AJ.done (by kernel_rfl) (by kernel_rfl) rfl (by kernel_rfl) ?_)
                exact XJ.meet (b21, b22, u1, u2, B1, d1, u3, u4, B2, d2, NJ1, NJ2) ⟨hrc, hsc⟩ (by exact kEsub) (Gives.refl _)
            · rintro _ _ ⟨b21, rfl, rfl⟩
              refine ⟨by (repeat (first | exact Gives.nil _ | (apply Gives.cons; (focus (exact Takes.here _ _))) | apply Gives.drop | apply Gives.skipApp)), ?_⟩
              refine AJ.one (kLoud 9 rfl (OpS.callAll (fun w h mm sa => Job_spec w (hT.sat sa) _ _ hfq (hQ w h _ (mm.tail.tail.skip) sa) tn m _ (hM0.up sa.below) h32 inV inp (hin.up sa.below) hi32 (by omega) 3001 (by omega)) (by exact kEv) inferInstance (by exact kEvl) (by exact rfl)) (by rintro _ _ h; first | exact h.elim | exact h) ?_)
              · rintro _ _ ⟨NJ2, ⟨scs, rfl, hsc⟩, rfl⟩
                refine ⟨by (repeat (first | exact Gives.nil _ | (apply Gives.cons; (focus (exact Takes.here _ _))) | apply Gives.drop | apply Gives.skipApp)), ?_⟩
                rw [hsq] at hsc
                refine AJ.factS (p := ∃ u v A c, rcs = [u, v, .slice A r.out.length c, .int .i64 r.read, .int .i64 r.steps, .int .i64 r.err] ∧ u.oneCell' = true ∧ v.oneCell' = true) (fun w h mm sa => (hrc _ w h _ (mm.skip.tail.tail) sa).cells) ?_
                rintro ⟨u1, u2, B1, d1, rfl, ho1, ho2⟩
                refine AJ.factS (p := ∃ u v A c, scs = [u, v, .slice A r.out.length c, .int .i64 r.read, .int .i64 ((r.steps + 1 : Nat) : Int), .int .i64 r.err] ∧ u.oneCell' = true ∧ v.oneCell' = true) (fun w h mm sa => (hsc _ w h _ (mm) sa).cells) ?_
                rintro ⟨u3, u4, B2, d2, rfl, ho3, ho4⟩
                (refine AJ.loud0 (i := 12) (by kernel_rfl) (by kernel_rfl) rfl (by kernel_rfl) (by kernel_rfl) rfl rfl rfl rfl (OpS.storeA (q := 6) kEv kEv (by exact rfl) (res_one ho1 ho2) (Takes.appR _ (Takes.here _ _)) (by exact Nat.le_refl 6)) ?_ ?_)
                rotate_left
                · rintro _ _ h; exact h.elim
                rintro _ _ rfl
                refine ⟨by (repeat (first | exact Gives.nil _ | (apply Gives.cons; (focus (exact Takes.here _ _))) | apply Gives.drop | apply Gives.skipApp)), ?_⟩
                (refine AJ.loud0 (i := 13) (by kernel_rfl) (by kernel_rfl) rfl (by kernel_rfl) (by kernel_rfl) rfl rfl rfl rfl (OpS.storeA (q := 6) kEv kEv (by exact rfl) (res_one ho3 ho4) (Takes.there (Takes.appR _ (Takes.here _ _))) (by exact Nat.le_refl 6)) ?_ ?_)
                rotate_left
                · rintro _ _ h; exact h.elim
                rintro _ _ rfl
                refine ⟨by (repeat (first | exact Gives.nil _ | (apply Gives.cons; (focus (exact Takes.here _ _))) | apply Gives.drop | apply Gives.skipApp)), ?_⟩
                (refine AJ.done (by kernel_rfl) (by kernel_rfl) rfl (by kernel_rfl) ?_)
                exact XJ.meet (b21, b22, u1, u2, B1, d1, u3, u4, B2, d2, NJ1, NJ2) ⟨hrc, hsc⟩ (by exact kEsub) (Gives.refl _)
        · rintro _ _ ⟨b21, rfl, rfl⟩
          refine ⟨by (repeat (first | exact Gives.nil _ | (apply Gives.cons; (focus (exact Takes.here _ _))) | apply Gives.drop | apply Gives.skipApp)), ?_⟩
          refine AJ.two (kLoud 4 rfl (OpS.callAll (fun w h mm sa => Job_spec w (hT.sat sa) p _ hf (hR.up sa.below) tn m _ (hM0.up sa.below) h32 inV inp (hin.up sa.below) hi32 (by omega) 3000 (by omega)) (by exact kEv) inferInstance (by exact kEvl) (by exact rfl)) (by rintro _ _ h; first | exact h.elim | exact h) ?_) (kLoud 11 rfl (OpS.alloc (P := Tryz.prog) (vs := [.slice none 0 0, .slice none 0 0, .slice none 0 0, .int .i64 0, .int .i64 0, .int .i64 0]) rfl) (by rintro _ _ h; first | exact h.elim | exact h) ?_)
          · rintro _ _ ⟨NJ1, ⟨rcs, rfl, hrc⟩, rfl⟩
            refine ⟨by (repeat (first | exact Gives.nil _ | (apply Gives.cons; (focus (exact Takes.here _ _))) | apply Gives.drop | apply Gives.skipApp)), ?_⟩
            rw [hrr] at hrc
            refine AJ.two (kLoud 9 rfl (OpS.callAll (fun w h mm sa => Job_spec w (hT.sat sa) _ _ hfq (hQ w h _ (mm.skip.tail) sa) tn m _ (hM0.up sa.below) h32 inV inp (hin.up sa.below) hi32 (by omega) 3001 (by omega)) (by exact kEv) inferInstance (by exact kEvl) (by exact rfl)) (by rintro _ _ h; first | exact h.elim | exact h) ?_) (kLoud 11 rfl (OpS.alloc (P := Tryz.prog) (vs := [.slice none 0 0, .slice none 0 0, .slice none 0 0, .int .i64 0, .int .i64 0, .int .i64 0]) rfl) (by rintro _ _ h; first | exact h.elim | exact h) ?_)
            · rintro _ _ ⟨NJ2, ⟨scs, rfl, hsc⟩, rfl⟩
              refine ⟨by (repeat (first | exact Gives.nil _ | (apply Gives.cons; (focus (exact Takes.here _ _))) | apply Gives.drop | apply Gives.skipApp)), ?_⟩
              rw [hsq] at hsc
              refine AJ.one (kLoud 11 rfl (OpS.alloc (P := Tryz.prog) (vs := [.slice none 0 0, .slice none 0 0, .slice none 0 0, .int .i64 0, .int .i64 0, .int .i64 0]) rfl) (by rintro _ _ h; first | exact h.elim | exact h) ?_)
              · rintro _ _ ⟨b22, rfl, rfl⟩
                refine ⟨by (repeat (first | exact Gives.nil _ | (apply Gives.cons; (focus (exact Takes.here _ _))) | apply Gives.drop | apply Gives.skipApp)), ?_⟩
                refine AJ.factS (p := ∃ u v A c, rcs = [u, v, .slice A r.out.length c, .int .i64 r.read, .int .i64 r.steps, .int .i64 r.err] ∧ u.oneCell' = true ∧ v.oneCell' = true) (fun w h mm sa => (hrc _ w h _ (mm.tail.skip) sa).cells) ?_
                rintro ⟨u1, u2, B1, d1, rfl, ho1, ho2⟩
                refine AJ.factS (p := ∃ u v A c, scs = [u, v, .slice A r.out.length c, .int .i64 r.read, .int .i64 ((r.steps + 1 : Nat) : Int), .int .i64 r.err] ∧ u.oneCell' = true ∧ v.oneCell' = true) (fun w h mm sa => (hsc _ w h _ (mm.tail) sa).cells) ?_
                rintro ⟨u3, u4, B2, d2, rfl, ho3, ho4⟩
                (refine AJ.loud0 (i := 12) (by kernel_rfl) (by kernel_rfl) rfl (by kernel_rfl) (by kernel_rfl) rfl rfl rfl rfl (OpS.storeA (q := 6) kEv kEv (by exact rfl) (res_one ho1 ho2) (Takes.there (Takes.appR _ (Takes.appR _ (Takes.here _ _)))) (by exact Nat.le_refl 6)) ?_ ?_)
                rotate_left
                · rintro _ _ h; exact h.elim
                rintro _ _ rfl
                refine ⟨by (repeat (first | exact Gives.nil _ | (apply Gives.cons; (focus (exact Takes.here _ _))) | apply Gives.drop | apply Gives.skipApp)), ?_⟩
                (refine AJ.loud0 (i := 13) (by kernel_rfl) (by kernel_rfl) rfl (by kernel_rfl) (by kernel_rfl) rfl rfl rfl rfl (OpS.storeA (q := 6) kEv kEv (by exact rfl) (res_one ho3 ho4) (Takes.there (Takes.here _ _)) (by exact Nat.le_refl 6)) ?_ ?_)
                rotate_left
                · rintro _ _ h; exact h.elim
                rintro _ _ rfl
                refine ⟨by (repeat (first | exact Gives.nil _ | (apply Gives.cons; (focus (exact Takes.here _ _))) | apply Gives.drop | apply Gives.skipApp)), ?_⟩
                (refine AJ.done (by kernel_rfl) (by kernel_rfl) rfl (by kernel_rfl) ?_)
                exact XJ.meet (b21, b22, u1, u2, B1, d1, u3, u4, B2, d2, NJ1, NJ2) ⟨hrc, hsc⟩ (by exact kEsub) (Gives.refl _)
            · rintro _ _ ⟨b22, rfl, rfl⟩
              refine ⟨by (repeat (first | exact Gives.nil _ | (apply Gives.cons; (focus (exact Takes.here _ _))) | apply Gives.drop | apply Gives.skipApp)), ?_⟩
              refine AJ.one (kLoud 9 rfl (OpS.callAll (fun w h mm sa => Job_spec w (hT.sat sa) _ _ hfq (hQ w h _ (mm.tail.skip.tail) sa) tn m _ (hM0.up sa.below) h32 inV inp (hin.up sa.below) hi32 (by omega) 3001 (by omega)) (by exact kEv) inferInstance (by exact kEvl) (by exact rfl)) (by rintro _ _ h; first | exact h.elim | exact h) ?_)
              · rintro _ _ ⟨NJ2, ⟨scs, rfl, hsc⟩, rfl⟩
                refine ⟨by (repeat (first | exact Gives.nil _ | (apply Gives.cons; (focus (exact Takes.here _ _))) | apply Gives.drop | apply Gives.skipApp)), ?_⟩
                rw [hsq] at hsc
                refine AJ.factS (p := ∃ u v A c, rcs = [u, v, .slice A r.out.length c, .int .i64 r.read, .int .i64 r.steps, .int .i64 r.err] ∧ u.oneCell' = true ∧ v.oneCell' = true) (fun w h mm sa => (hrc _ w h _ (mm.skip.tail) sa).cells) ?_
                rintro ⟨u1, u2, B1, d1, rfl, ho1, ho2⟩
                refine AJ.factS (p := ∃ u v A c, scs = [u, v, .slice A r.out.length c, .int .i64 r.read, .int .i64 ((r.steps + 1 : Nat) : Int), .int .i64 r.err] ∧ u.oneCell' = true ∧ v.oneCell' = true) (fun w h mm sa => (hsc _ w h _ (mm) sa).cells) ?_
                rintro ⟨u3, u4, B2, d2, rfl, ho3, ho4⟩
                (refine AJ.loud0 (i := 12) (by kernel_rfl) (by kernel_rfl) rfl (by kernel_rfl) (by kernel_rfl) rfl rfl rfl rfl (OpS.storeA (q := 6) kEv kEv (by exact rfl) (res_one ho1 ho2) (Takes.appR _ (Takes.there (Takes.appR _ (Takes.here _ _)))) (by exact Nat.le_refl 6)) ?_ ?_)
                rotate_left
                · rintro _ _ h; exact h.elim
                rintro _ _ rfl
                refine ⟨by (repeat (first | exact Gives.nil _ | (apply Gives.cons; (focus (exact Takes.here _ _))) | apply Gives.drop | apply Gives.skipApp)), ?_⟩
                (refine AJ.loud0 (i := 13) (by kernel_rfl) (by kernel_rfl) rfl (by kernel_rfl) (by kernel_rfl) rfl rfl rfl rfl (OpS.storeA (q := 6) kEv kEv (by exact rfl) (res_one ho3 ho4) (Takes.there (Takes.appR _ (Takes.here _ _))) (by exact Nat.le_refl 6)) ?_ ?_)
                rotate_left
                · rintro _ _ h; exact h.elim
                rintro _ _ rfl
                refine ⟨by (repeat (first | exact Gives.nil _ | (apply Gives.cons; (focus (exact Takes.here _ _))) | apply Gives.drop | apply Gives.skipApp)), ?_⟩
                (refine AJ.done (by kernel_rfl) (by kernel_rfl) rfl (by kernel_rfl) ?_)
                exact XJ.meet (b21, b22, u1, u2, B1, d1, u3, u4, B2, d2, NJ1, NJ2) ⟨hrc, hsc⟩ (by exact kEsub) (Gives.refl _)
          · rintro _ _ ⟨b22, rfl, rfl⟩
            refine ⟨by (repeat (first | exact Gives.nil _ | (apply Gives.cons; (focus (exact Takes.here _ _))) | apply Gives.drop | apply Gives.skipApp)), ?_⟩
            refine AJ.one (kLoud 4 rfl (OpS.callAll (fun w h mm sa => Job_spec w (hT.sat sa) p _ hf (hR.up sa.below) tn m _ (hM0.up sa.below) h32 inV inp (hin.up sa.below) hi32 (by omega) 3000 (by omega)) (by exact kEv) inferInstance (by exact kEvl) (by exact rfl)) (by rintro _ _ h; first | exact h.elim | exact h) ?_)
            · rintro _ _ ⟨NJ1, ⟨rcs, rfl, hrc⟩, rfl⟩
              refine ⟨by (repeat (first | exact Gives.nil _ | (apply Gives.cons; (focus (exact Takes.here _ _))) | apply Gives.drop | apply Gives.skipApp)), ?_⟩
              rw [hrr] at hrc
              refine AJ.one (kLoud 9 rfl (OpS.callAll (fun w h mm sa => Job_spec w (hT.sat sa) _ _ hfq (hQ w h _ (mm.skip.tail.tail) sa) tn m _ (hM0.up sa.below) h32 inV inp (hin.up sa.below) hi32 (by omega) 3001 (by omega)) (by exact kEv) inferInstance (by exact kEvl) (by exact rfl)) (by rintro _ _ h; first | exact h.elim | exact h) ?_)
              · rintro _ _ ⟨NJ2, ⟨scs, rfl, hsc⟩, rfl⟩
                refine ⟨by (repeat (first | exact Gives.nil _ | (apply Gives.cons; (focus (exact Takes.here _ _))) | apply Gives.drop | apply Gives.skipApp)), ?_⟩
                rw [hsq] at hsc
                refine AJ.factS (p := ∃ u v A c, rcs = [u, v, .slice A r.out.length c, .int .i64 r.read, .int .i64 r.steps, .int .i64 r.err] ∧ u.oneCell' = true ∧ v.oneCell' = true) (fun w h mm sa => (hrc _ w h _ (mm.skip) sa).cells) ?_
                rintro ⟨u1, u2, B1, d1, rfl, ho1, ho2⟩
                refine AJ.factS (p := ∃ u v A c, scs = [u, v, .slice A r.out.length c, .int .i64 r.read, .int .i64 ((r.steps + 1 : Nat) : Int), .int .i64 r.err] ∧ u.oneCell' = true ∧ v.oneCell' = true) (fun w h mm sa => (hsc _ w h _ (mm) sa).cells) ?_
                rintro ⟨u3, u4, B2, d2, rfl, ho3, ho4⟩
                (refine AJ.loud0 (i := 12) (by kernel_rfl) (by kernel_rfl) rfl (by kernel_rfl) (by kernel_rfl) rfl rfl rfl rfl (OpS.storeA (q := 6) kEv kEv (by exact rfl) (res_one ho1 ho2) (Takes.appR _ (Takes.appR _ (Takes.there (Takes.here _ _)))) (by exact Nat.le_refl 6)) ?_ ?_)
                rotate_left
                · rintro _ _ h; exact h.elim
                rintro _ _ rfl
                refine ⟨by (repeat (first | exact Gives.nil _ | (apply Gives.cons; (focus (exact Takes.here _ _))) | apply Gives.drop | apply Gives.skipApp)), ?_⟩
                (refine AJ.loud0 (i := 13) (by kernel_rfl) (by kernel_rfl) rfl (by kernel_rfl) (by kernel_rfl) rfl rfl rfl rfl (OpS.storeA (q := 6) kEv kEv (by exact rfl) (res_one ho3 ho4) (Takes.there (Takes.appR _ (Takes.appR _ (Takes.here _ _)))) (by exact Nat.le_refl 6)) ?_ ?_)
                rotate_left
                · rintro _ _ h; exact h.elim
                rintro _ _ rfl
                refine ⟨by (repeat (first | exact Gives.nil _ | (apply Gives.cons; (focus (exact Takes.here _ _))) | apply Gives.drop | apply Gives.skipApp)), ?_⟩
                (refine AJ.done (by kernel_rfl) (by kernel_rfl) rfl (by kernel_rfl) ?_)
                exact XJ.meet (b21, b22, u1, u2, B1, d1, u3, u4, B2, d2, NJ1, NJ2) ⟨hrc, hsc⟩ (by exact kEsub) (Gives.refl _)
        · rintro _ _ ⟨b22, rfl, rfl⟩
          refine ⟨by (repeat (first | exact Gives.nil _ | (apply Gives.cons; (focus (exact Takes.here _ _))) | apply Gives.drop | apply Gives.skipApp)), ?_⟩
          refine AJ.two (kLoud 4 rfl (OpS.callAll (fun w h mm sa => Job_spec w (hT.sat sa) p _ hf (hR.up sa.below) tn m _ (hM0.up sa.below) h32 inV inp (hin.up sa.below) hi32 (by omega) 3000 (by omega)) (by exact kEv) inferInstance (by exact kEvl) (by exact rfl)) (by rintro _ _ h; first | exact h.elim | exact h) ?_) (kLoud 10 rfl (OpS.alloc (P := Tryz.prog) (vs := [.slice none 0 0, .slice none 0 0, .slice none 0 0, .int .i64 0, .int .i64 0, .int .i64 0]) rfl) (by rintro _ _ h; first | exact h.elim | exact h) ?_)
          · rintro _ _ ⟨NJ1, ⟨rcs, rfl, hrc⟩, rfl⟩
            refine ⟨by (repeat (first | exact Gives.nil _ | (apply Gives.cons; (focus (exact Takes.here _ _))) | apply Gives.drop | apply Gives.skipApp)), ?_⟩
            rw [hrr] at hrc
            refine AJ.two (kLoud 9 rfl (OpS.callAll (fun w h mm sa => Job_spec w (hT.sat sa) _ _ hfq (hQ w h _ (mm.skip.tail) sa) tn m _ (hM0.up sa.below) h32 inV inp (hin.up sa.below) hi32 (by omega) 3001 (by omega)) (by exact kEv) inferInstance (by exact kEvl) (by exact rfl)) (by rintro _ _ h; first | exact h.elim | exact h) ?_) (kLoud 10 rfl (OpS.alloc (P := Tryz.prog) (vs := [.slice none 0 0, .slice none 0 0, .slice none 0 0, .int .i64 0, .int .i64 0, .int .i64 0]) rfl) (by rintro _ _ h; first | exact h.elim | exact h) ?_)
            · rintro _ _ ⟨NJ2, ⟨scs, rfl, hsc⟩, rfl⟩
              refine ⟨by (repeat (first | exact Gives.nil _ | (apply Gives.cons; (focus (exact Takes.here _ _))) | apply Gives.drop | apply Gives.skipApp)), ?_⟩
              rw [hsq] at hsc
              refine AJ.one (kLoud 10 rfl (OpS.alloc (P := Tryz.prog) (vs := [.slice none 0 0, .slice none 0 0, .slice none 0 0, .int .i64 0, .int .i64 0, .int .i64 0]) rfl) (by rintro _ _ h; first | exact h.elim | exact h) ?_)
              · rintro _ _ ⟨b21, rfl, rfl⟩
                refine ⟨by (repeat (first | exact Gives.nil _ | (apply Gives.cons; (focus (exact Takes.here _ _))) | apply Gives.drop | apply Gives.skipApp)), ?_⟩
                refine AJ.factS (p := ∃ u v A c, rcs = [u, v, .slice A r.out.length c, .int .i64 r.read, .int .i64 r.steps, .int .i64 r.err] ∧ u.oneCell' = true ∧ v.oneCell' = true) (fun w h mm sa => (hrc _ w h _ (mm.tail.skip) sa).cells) ?_
                rintro ⟨u1, u2, B1, d1, rfl, ho1, ho2⟩
                refine AJ.factS (p := ∃ u v A c, scs = [u, v, .slice A r.out.length c, .int .i64 r.read, .int .i64 ((r.steps + 1 : Nat) : Int), .int .i64 r.err] ∧ u.oneCell' = true ∧ v.oneCell' = true) (fun w h mm sa => (hsc _ w h _ (mm.tail) sa).cells) ?_
                rintro ⟨u3, u4, B2, d2, rfl, ho3, ho4⟩
                (refine AJ.loud0 (i := 12) (by kernel_rfl) (by kernel_rfl) rfl (by kernel_rfl) (by kernel_rfl) rfl rfl rfl rfl (OpS.storeA (q := 6) kEv kEv (by exact rfl) (res_one ho1 ho2) (Takes.here _ _) (by exact Nat.le_refl 6)) ?_ ?_)
                rotate_left
                · rintro _ _ h; exact h.elim
                rintro _ _ rfl
                refine ⟨by (repeat (first | exact Gives.nil _ | (apply Gives.cons; (focus (exact Takes.here _ _))) | apply Gives.drop | apply Gives.skipApp)), ?_⟩
                (refine AJ.loud0 (i := 13) (by kernel_rfl) (by kernel_rfl) rfl (by kernel_rfl) (by kernel_rfl) rfl rfl rfl rfl (OpS.storeA (q := 6) kEv kEv (by exact rfl) (res_one ho3 ho4) (Takes.there (Takes.appR _ (Takes.appR _ (Takes.here _ _)))) (by exact Nat.le_refl 6)) ?_ ?_)
                rotate_left
                · rintro _ _ h; exact h.elim
                rintro _ _ rfl
                refine ⟨by (repeat (first | exact Gives.nil _ | (apply Gives.cons; (focus (exact Takes.here _ _))) | apply Gives.drop | apply Gives.skipApp)), ?_⟩
                (refine AJ.done (by kernel_rfl) (by kernel_rfl) rfl (by kernel_rfl) ?_)
                exact XJ.meet (b21, b22, u1, u2, B1, d1, u3, u4, B2, d2, NJ1, NJ2) ⟨hrc, hsc⟩ (by exact kEsub) (Gives.refl _)
            · rintro _ _ ⟨b21, rfl, rfl⟩
              refine ⟨by (repeat (first | exact Gives.nil _ | (apply Gives.cons; (focus (exact Takes.here _ _))) | apply Gives.drop | apply Gives.skipApp)), ?_⟩
              refine AJ.one (kLoud 9 rfl (OpS.callAll (fun w h mm sa => Job_spec w (hT.sat sa) _ _ hfq (hQ w h _ (mm.tail.skip.tail) sa) tn m _ (hM0.up sa.below) h32 inV inp (hin.up sa.below) hi32 (by omega) 3001 (by omega)) (by exact kEv) inferInstance (by exact kEvl) (by exact rfl)) (by rintro _ _ h; first | exact h.elim | exact h) ?_)
              · rintro _ _ ⟨NJ2, ⟨scs, rfl, hsc⟩, rfl⟩
                refine ⟨by (repeat (first | exact Gives.nil _ | (apply Gives.cons; (focus (exact Takes.here _ _))) | apply Gives.drop | apply Gives.skipApp)), ?_⟩
                rw [hsq] at hsc
                refine AJ.factS (p := ∃ u v A c, rcs = [u, v, .slice A r.out.length c, .int .i64 r.read, .int .i64 r.steps, .int .i64 r.err] ∧ u.oneCell' = true ∧ v.oneCell' = true) (fun w h mm sa => (hrc _ w h _ (mm.skip.tail) sa).cells) ?_
                rintro ⟨u1, u2, B1, d1, rfl, ho1, ho2⟩
                refine AJ.factS (p := ∃ u v A c, scs = [u, v, .slice A r.out.length c, .int .i64 r.read, .int .i64 ((r.steps + 1 : Nat) : Int), .int .i64 r.err] ∧ u.oneCell' = true ∧ v.oneCell' = true) (fun w h mm sa => (hsc _ w h _ (mm) sa).cells) ?_
                rintro ⟨u3, u4, B2, d2, rfl, ho3, ho4⟩
                (refine AJ.loud0 (i := 12) (by kernel_rfl) (by kernel_rfl) rfl (by kernel_rfl) (by kernel_rfl) rfl rfl rfl rfl (OpS.storeA (q := 6) kEv kEv (by exact rfl) (res_one ho1 ho2) (Takes.appR _ (Takes.here _ _)) (by exact Nat.le_refl 6)) ?_ ?_)
                rotate_left
                · rintro _ _ h; exact h.elim
                rintro _ _ rfl
                refine ⟨by (repeat (first | exact Gives.nil _ | (apply Gives.cons; (focus (exact Takes.here _ _))) | apply Gives.drop | apply Gives.skipApp)), ?_⟩
                (refine AJ.loud0 (i := 13) (by kernel_rfl) (by kernel_rfl) rfl (by kernel_rfl) (by kernel_rfl) rfl rfl rfl rfl (OpS.storeA (q := 6) kEv kEv (by exact rfl) (res_one ho3 ho4) (Takes.there (Takes.appR _ (Takes.appR _ (Takes.here _ _)))) (by exact Nat.le_refl 6)) ?_ ?_)
                rotate_left
                · rintro _ _ h; exact h.elim
                rintro _ _ rfl
                refine ⟨by (repeat (first | exact Gives.nil _ | (apply Gives.cons; (focus (exact Takes.here _ _))) | apply Gives.drop | apply Gives.skipApp)), ?_⟩
                (refine AJ.done (by kernel_rfl) (by kernel_rfl) rfl (by kernel_rfl) ?_)
                exact XJ.meet (b21, b22, u1, u2, B1, d1, u3, u4, B2, d2, NJ1, NJ2) ⟨hrc, hsc⟩ (by exact kEsub) (Gives.refl _)
          · rintro _ _ ⟨b21, rfl, rfl⟩
            refine ⟨by (repeat (first | exact Gives.nil _ | (apply Gives.cons; (focus (exact Takes.here _ _))) | apply Gives.drop | apply Gives.skipApp)), ?_⟩
            refine AJ.one (kLoud 4 rfl (OpS.callAll (fun w h mm sa => Job_spec w (hT.sat sa) p _ hf (hR.up sa.below) tn m _ (hM0.up sa.below) h32 inV inp (hin.up sa.below) hi32 (by omega) 3000 (by omega)) (by exact kEv) inferInstance (by exact kEvl) (by exact rfl)) (by rintro _ _ h; first | exact h.elim | exact h) ?_)
            · rintro _ _ ⟨NJ1, ⟨rcs, rfl, hrc⟩, rfl⟩
              refine ⟨by (repeat (first | exact Gives.nil _ | (apply Gives.cons; (focus (exact Takes.here _ _))) | apply Gives.drop | apply Gives.skipApp)), ?_⟩
              rw [hrr] at hrc
              refine AJ.one (kLoud 9 rfl (OpS.callAll (fun w h mm sa => Job_spec w (hT.sat sa) _ _ hfq (hQ w h _ (mm.skip.tail.tail) sa) tn m _ (hM0.up sa.below) h32 inV inp (hin.up sa.below) hi32 (by omega) 3001 (by omega)) (by exact kEv) inferInstance (by exact kEvl) (by exact rfl)) (by rintro _ _ h; first | exact h.elim | exact h) ?_)
              · rintro _ _ ⟨NJ2, ⟨scs, rfl, hsc⟩, rfl⟩
                refine ⟨by (repeat (first | exact Gives.nil _ | (apply Gives.cons; (focus (exact Takes.here _ _))) | apply Gives.drop | apply Gives.skipApp)), ?_⟩
                rw [hsq] at hsc
                refine AJ.factS (p := ∃ u v A c, rcs = [u, v, .slice A r.out.length c, .int .i64 r.read, .int .i64 r.steps, .int .i64 r.err] ∧ u.oneCell' = true ∧ v.oneCell' = true) (fun w h mm sa => (hrc _ w h _ (mm.skip) sa).cells) ?_
                rintro ⟨u1, u2, B1, d1, rfl, ho1, ho2⟩
                refine AJ.factS (p := ∃ u v A c, scs = [u, v, .slice A r.out.length c, .int .i64 r.read, .int .i64 ((r.steps + 1 : Nat) : Int), .int .i64 r.err] ∧ u.oneCell' = true ∧ v.oneCell' = true) (fun w h mm sa => (hsc _ w h _ (mm) sa).cells) ?_
                rintro ⟨u3, u4, B2, d2, rfl, ho3, ho4⟩
                (refine AJ.loud0 (i := 12) (by kernel_rfl) (by kernel_rfl) rfl (by kernel_rfl) (by kernel_rfl) rfl rfl rfl rfl (OpS.storeA (q := 6) kEv kEv (by exact rfl) (res_one ho1 ho2) (Takes.appR _ (Takes.appR _ (Takes.here _ _))) (by exact Nat.le_refl 6)) ?_ ?_)
                rotate_left
                · rintro _ _ h; exact h.elim
                rintro _ _ rfl
                refine ⟨by (repeat (first | exact Gives.nil _ | (apply Gives.cons; (focus (exact Takes.here _ _))) | apply Gives.drop | apply Gives.skipApp)), ?_⟩
                (refine AJ.loud0 (i := 13) (by kernel_rfl) (by kernel_rfl) rfl (by kernel_rfl) (by kernel_rfl) rfl rfl rfl rfl (OpS.storeA (q := 6) kEv kEv (by exact rfl) (res_one ho3 ho4) (Takes.there (Takes.appR _ (Takes.appR _ (Takes.here _ _)))) (by exact Nat.le_refl 6)) ?_ ?_)
                rotate_left
                · rintro _ _ h; exact h.elim
                rintro _ _ rfl
                refine ⟨by (repeat (first | exact Gives.nil _ | (apply Gives.cons; (focus (exact Takes.here _ _))) | apply Gives.drop | apply Gives.skipApp)), ?_⟩
                (refine AJ.done (by kernel_rfl) (by kernel_rfl) rfl (by kernel_rfl) ?_)
                exact XJ.meet (b21, b22, u1, u2, B1, d1, u3, u4, B2, d2, NJ1, NJ2) ⟨hrc, hsc⟩ (by exact kEsub) (Gives.refl _)
      · rintro ⟨b21, b22, u1, u2, B1, d1, u3, u4, B2, d2, NJ1, NJ2⟩ ⟨hrc, hsc⟩
        simp only at hrc hsc ⊢
        have hsame : sameB r { r with steps := r.steps + 1 } false = true := by
          unfold sameB
          rw [(eqMem_iff _ _).2 rfl]
          simp
        refine kAutoB ?_
        cases h13 : (r.err == 13)
        case true =>
          refine kAutoB ?_
          exact XJ.ret1 rfl rfl [] (by (repeat (first | exact Gives.refl _ | apply Gives.drop | apply Gives.skipApp))) ⟨rfl, rfl⟩
        refine kAutoB ?_
        (apply RL.callAll; exact kEv; exact inferInstance; exact kEvl; exact rfl; exact (fun w h mm sa => same_spec w _ _ r { r with steps := r.steps + 1 } (hrc _ w h _ (mm.tail.tail.skip) sa) (hsc _ w h _ (mm.tail.tail) sa) hsz.1 (by simp only [maxLen]; omega) false); exact rfl)
        rintro _ _ ⟨rfl, rfl⟩
        rw [hsame]
        refine RL.gives (M' := cel b22 37 _ :: cel b21 37 _ :: F) (Gives.cons (Takes.here _ _) (Gives.cons (Takes.here _ _) (by (repeat (first | exact Gives.refl _ | apply Gives.drop | apply Gives.skipApp))))) ?_
        refine kAutoB ?_
        rw [i64_up r.steps (by omega), beq_self_eq_true]
        refine kAutoB ?_
        exact XJ.ret1 rfl rfl [] (by (repeat (first | exact Gives.refl _ | apply Gives.drop | apply Gives.skipApp))) ⟨rfl, rfl⟩
end Go.Proofs.YtgmapenlgammfaaGreatDoor
