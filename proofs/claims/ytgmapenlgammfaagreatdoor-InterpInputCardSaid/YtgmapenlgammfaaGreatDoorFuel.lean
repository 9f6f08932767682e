/- The law InterpFuel: the walk. -/
import Derived.Test.YtgmapenlgammfaaGreatDoorAwake
import Derived.Test.YtgmapenlgammfaaGreatDoorLaws
set_option linter.all false
namespace Go.Proofs.YtgmapenlgammfaaGreatDoor
open Go
section
attribute [local semireducible] Ev OpP
variable {P : Program} {w0 : World} {L : Env} {M : List HProp} {d : Option Tmp} {T : TypeId} {p : String} {af : Array Edge} {g : Option (Nat × Bool)}
/-- s[:k] -/
theorem OpP.sliceTo {t : TypeId} {x y : Operand} {E sz : Nat} [q : SliceT P t E sz] {A : Option Addr} {l c k : Nat} (hx : Ev L x (.slice A l c)) (hy : Ev L y (.int .i64 (k : Int))) (hc : k ≤ c) : OpP P w0 L M ⟨d, .slice t x none (some y) none, T, p, af, g⟩ (.slice A k c) := fun n a w h s _ _ => by
  have h0 : ∀ ad : Addr, ad.add 0 = ad := fun ad => by unfold Addr.add; split <;> simp_all
  have h1 : (k : Int) ≤ (c : Int) := by omega
  simp [execOp, hx n a s, hy n a s, Instr.sliceAt, Instr.slice, Instr.sliceBounds, Instr.sliceBound, run_und q.und, asIntOf, h1, q.sz, h0]
  omega
/-- s[k:] -/
theorem OpP.sliceFrom {t : TypeId} {x y : Operand} {E sz : Nat} [q : SliceT P t E sz] {A : Option Addr} {l c k : Nat} (hx : Ev L x (.slice A l c)) (hy : Ev L y (.int .i64 (k : Int))) (hl : k ≤ l) : OpP P w0 L M ⟨d, .slice t x (some y) none none, T, p, af, g⟩ (.slice (if c = k then A else A.map fun a => a.add (k * sz)) (l - k) (c - k)) := fun n a w h s _ _ => by
  have h1 : (k : Int) ≤ (l : Int) := by omega
  simp [execOp, hx n a s, hy n a s, Instr.sliceAt, Instr.slice, Instr.sliceBounds, Instr.sliceBound, run_und q.und, asIntOf, h1, q.sz]
  omega
end
theorem i64_id {x : Int} (h0 : 0 ≤ x) (h1 : x ≤ 65535) : IntKind.i64.wrap x = x := by
  simp [IntKind.wrap, IntKind.min, IntKind.max, IntKind.signed, IntKind.bits]
  omega
theorem ResR.outs {w : World} {u v o : Value} {cs : List Value} {r : JobRes} (h : ResR w (u :: v :: o :: cs) r) : OutsR w o r.out := by
  obtain ⟨_, _, _, e, _, _, h⟩ := h
  simp only [List.cons.injEq] at e
  obtain ⟨_, _, rfl, _⟩ := e
  exact h
theorem OutsR.take {w : World} {A : Option Addr} {n c : Nat} {l : List (Int × Int)} (h : OutsR w (.slice A n c) l) (k : Nat) (hk : k ≤ n) : k ≤ c ∧ OutsR w (.slice A k c) (l.take k) := by
  obtain ⟨A', c', e, hc, hr⟩ := h
  simp only [Value.slice.injEq] at e
  obtain ⟨rfl, rfl, rfl⟩ := e
  refine ⟨by omega, A, c, by rw [List.length_take, Nat.min_eq_left hk], by simp only [List.length_take]; omega, ?_⟩
  intro i x e
  refine hr i x ?_
  rw [List.map_take, List.getElem?_take] at e
  split at e
  · exact e
  · cases e
theorem fuel_spec (w0 : World) (hT : Tab w0) (p : Prg) (pcs : List Value) (hR : PrgR w0 p pcs) (m : Mem) (mcs : List Value) (hM : MemR w0 mcs m) (h32 : Mem32 m) (hL : MemL m) (inV : Value) (inp : List Int) (hin : IntsR w0 inV inp) (hi32 : ∀ x ∈ inp, I32 x) (t less : Int) (hl0 : 0 ≤ less) (hl1 : less ≤ 65535) :
    Spec Tryz.prog w0 4 #[.agg pcs.toArray, .int .i64 t, .agg mcs.toArray, inV, .int .u16 less] [] (Is (.bool true)) := by
  have hA := awake_spec w0 hT
  have hG := Great16_spec w0 p pcs hR m mcs hM hL.shared.1 (fun q hq => (hL.each q hq).1) inV inp hin
  have hJ : ∀ fuel : Int, Fit p → Small m inp → fuel ≤ 1000000 → _ := fun fuel hf hs hfu => Job_spec w0 hT p pcs hf hR t m mcs hM h32 inV inp hin hi32 (by have := hs.inp; omega) fuel hfu
  have hRun : Fit p → _ := fun hf => runnable_spec w0 hT p pcs hR hf m mcs hM t
  obtain ⟨A1, c1, A2, c2, rfl, -, -, -, -⟩ := hR.ex
  obtain ⟨u, v, rfl, hu, hv⟩ := hM
  obtain ⟨A3, c3, vs3, rfl, -, -, -, -⟩ := hu
  obtain ⟨A4, c4, vs4, rfl, -, -, -, -⟩ := hv
  refine Spec.enter (args := [_, _, _, _, _]) Tryz.func4 rfl rfl rfl (fun F => ?_)
  refine kAutoB ?_
  (apply RL.boxR; exact kEv; exact rfl; intro b5)
  (apply RL.boxR; exact kEv; exact rfl; intro b7)
  refine kAutoB ?_
  (apply RL.callIs; exact kEv; exact inferInstance; exact kEvl; exact hA; exact rfl)
  refine kAutoB ?_
  (apply RL.callIs; exact kEv; exact inferInstance; exact kEvl; exact hG; exact rfl)
  cases e1 : greatL p m inp
  case true =>
    refine kAutoB ?_
    exact XJ.ret1 rfl rfl [] (by exact kGives) ⟨rfl, rfl⟩
  obtain ⟨hf, hs⟩ := small_of_great e1
  refine kAutoB ?_
  (apply RL.callIs; exact kEv; exact inferInstance; exact kEvl; exact hRun hf; exact rfl)
  cases e2 : runB p t m
  case false =>
    refine kAutoB ?_
    exact XJ.ret1 rfl rfl [] (by exact kGives) ⟨rfl, rfl⟩
  have hr := runs_of e2
  refine kAutoB ?_
  (apply RL.callK; exact kEv; exact inferInstance; exact kEvl; exact (Takes.nil _); exact (hJ 3000 hf hs (by omega)); exact rfl)
  rintro _ N1 ⟨rcs, rfl, hrc⟩
  (apply RL.alloc; exact rfl; exact rfl; intro b11)
  generalize hrr : jobAll p t m inp 3000 = r at hrc
  refine RL.factS (p := ∃ u v A c, rcs = [u, v, .slice A r.out.length c, .int .i64 r.read, .int .i64 r.steps, .int .i64 r.err] ∧ u.oneCell' = true ∧ v.oneCell' = true) (fun w h mm sa => (hrc _ w h _ (mm.tail) sa).cells) ?_
  rintro ⟨u1, u2, A5, c5, rfl, ho1, ho2⟩
  (apply RL.storeA; exact kEv; exact kEv; exact Takes.here _ _; exact rfl; exact (by simp only [List.all_cons, List.all_nil, ho1, ho2]; rfl); exact rfl)
  refine kAutoB ?_
  have hsz := hr.sizes hf h32 hi32 hs 3000 (by omega)
  rw [hrr] at hsz
  refine CJ.gives (M' := cel b11 37 [u1, u2, .slice A5 r.out.length c5, .int .i64 r.read, .int .i64 r.steps, .int .i64 r.err] :: rcel b7 29 _ :: rcel b5 25 _ :: (N1 ++ F)) (Gives.cons (Takes.here _ _) (Gives.cons (Takes.appR _ (Takes.here _ _)) (Gives.cons (Takes.appR _ (Takes.here _ _)) (Gives.refl _)))) ?_
  cases h13 : (r.err == 13)
  case true =>
    have h13' : r.err = 13 := by simpa using h13
    have hst : (r.steps : Int) = 3000 := by rw [← hrr] at h13' ⊢; exact hr.out inp (by omega) h13'
    refine kAutoB ?_
    refine XJ.ret1 rfl rfl [] (by (repeat (first | exact Gives.refl _ | apply Gives.drop | apply Gives.skipApp))) ⟨?_, rfl⟩
    rw [hst]; rfl
  have h13' : (jobAll p t m inp 3000).err ≠ 13 := by rw [hrr]; simpa using h13
  have hst : (r.steps : Int) ≤ 1000000 := by omega
  refine kAutoB ?_
  (refine CJ.draws mixed 10 [cel b11 _ _, rcel b7 _ _, rcel b5 _ _] (by exact kGives) (dom_of (by kernel_rfl)) ?_)
  ((first | refine kAjB 0 ?_ | refine kAjS 0 ?_); (first | refine kAjB 1 ?_ | refine kAjS 1 ?_); (first | refine kAjB 2 ?_ | refine kAjS 2 ?_); (first | refine kAjB 3 ?_ | refine kAjS 3 ?_); (first | refine kAjB 4 ?_ | refine kAjS 4 ?_); (first | refine kAjB 5 ?_ | refine kAjS 5 ?_); (first | refine kAjB 6 ?_ | refine kAjS 6 ?_))
  (refine AJ.loud1 (i := 7) (by kernel_rfl) (by kernel_rfl) rfl (by kernel_rfl) (by kernel_rfl) rfl rfl rfl rfl rfl rfl (OpS.callO (hJ r.steps hf hs hst) (by exact kEv) inferInstance (by exact kEvl) (by exact rfl) (Takes.nil _)) ?_ ?_)
  rotate_left
  · rintro _ _ ⟨_, h, _⟩; exact h.elim
  rintro _ _ ⟨N2, ⟨scs, rfl, hsc⟩, rfl⟩
  refine ⟨by (repeat (first | exact Gives.nil _ | (apply Gives.cons; (focus (exact Takes.here _ _))) | apply Gives.drop | apply Gives.skipApp)), ?_⟩
  rw [hr.enough inp h13' (by rw [hrr]; exact Int.le_refl _), hrr] at hsc
  (refine AJ.loud1 (i := 8) (by kernel_rfl) (by kernel_rfl) rfl (by kernel_rfl) (by kernel_rfl) rfl rfl rfl rfl rfl rfl (OpS.callAll (fun w h mm sa => same_spec w _ scs r r (hrc _ w h _ (mm.skip.tail.tail.tail) sa) (hsc _ w h _ mm sa) hsz.1 (by simp only [maxLen]; omega) true) (by exact kEv) inferInstance (by exact kEvl) (by exact rfl)) ?_ ?_)
  rotate_left
  · rintro _ _ h; exact h.elim
  rintro _ _ ⟨N3, ⟨rfl, rfl⟩, rfl⟩
  refine ⟨by (repeat (first | exact Gives.nil _ | (apply Gives.cons; (focus (exact Takes.here _ _))) | apply Gives.drop | apply Gives.skipApp)), ?_⟩
  rw [sameB_refl]
  ((first | refine kAjB 9 ?_ | refine kAjS 9 ?_))
  (refine AJ.done (by kernel_rfl) (by kernel_rfl) rfl (by kernel_rfl) ?_)
  refine XJ.gives (M' := cel b11 37 _ :: rcel b7 29 _ :: rcel b5 25 _ :: (N1 ++ F)) (Gives.skipApp (Gives.skipApp (Gives.refl _))) ?_
  refine kAutoB ?_
  cases hst0 : ((r.steps : Int) == 0)
  case true =>
    refine kAutoB ?_
    exact XJ.ret1 rfl rfl [] (by (repeat (first | exact Gives.refl _ | apply Gives.drop | apply Gives.skipApp))) ⟨rfl, rfl⟩
  have hst0' : (r.steps : Int) ≠ 0 := by simpa using hst0
  refine kAutoB ?_
  apply RL.pur; (apply OpP.rem; exact kEv; exact kEv; exact hst0'); exact rfl
  refine kAutoB ?_
  have hk0 : 0 ≤ (IntKind.i64.wrap less).tmod (r.steps : Int) := by rw [i64_id (by omega) (by omega)]; exact Int.tmod_nonneg _ hl0
  have hk1 : (IntKind.i64.wrap less).tmod (r.steps : Int) < (r.steps : Int) := by rw [i64_id (by omega) (by omega)]; exact Int.tmod_lt_of_pos _ (by omega)
  generalize hk : (IntKind.i64.wrap less).tmod (r.steps : Int) = k at hk0 hk1
  (apply RL.callK; exact kEv; exact inferInstance; exact kEvl; exact (Takes.nil _); exact (hJ k hf hs (by omega)); exact rfl)
  rintro _ N4 ⟨qcs, rfl, hqc⟩
  have hless := hr.less inp h13' hk0 (by rw [hrr]; exact hk1)
  rw [hrr] at hless
  obtain ⟨g1, g2, g3, g4⟩ := hless
  have hszs := hr.sizes hf h32 hi32 hs k (by omega)
  generalize hss : jobAll p t m inp k = s at hqc g1 g2 g3 g4 hszs
  (apply RL.alloc; exact rfl; exact rfl; intro b13)
  refine RL.factS (p := ∃ u v A c, qcs = [u, v, .slice A s.out.length c, .int .i64 s.read, .int .i64 s.steps, .int .i64 s.err] ∧ u.oneCell' = true ∧ v.oneCell' = true) (fun w h mm sa => (hqc _ w h _ (mm.tail) sa).cells) ?_
  rintro ⟨u3, u4, A6, c6, rfl, ho3, ho4⟩
  (apply RL.storeA; exact kEv; exact kEv; exact Takes.here _ _; exact rfl; exact (by simp only [List.all_cons, List.all_nil, ho3, ho4]; rfl); exact rfl)
  refine kAutoB ?_
  refine CJ.gives (M' := cel b13 37 [u3, u4, .slice A6 s.out.length c6, .int .i64 s.read, .int .i64 s.steps, .int .i64 s.err] :: cel b11 37 _ :: rcel b7 29 _ :: rcel b5 25 _ :: (N4 ++ (N1 ++ F))) (Gives.cons (Takes.here _ _) (Gives.cons (Takes.appR _ (Takes.here _ _)) (Gives.cons (Takes.appR _ (Takes.here _ _)) (Gives.cons (Takes.appR _ (Takes.here _ _)) (Gives.refl _))))) ?_
  have hc5 : s.out.length ≤ r.out.length := g4.length_le
  have hout : decide (s.out = r.out.take s.out.length) = true := decide_eq_true (List.prefix_iff_eq_take.1 g4)
  refine CJ.factS (p := s.out.length ≤ c5) (fun w h mm sa => ((hrc _ w h _ (mm.tail.tail.tail.tail.skip) sa).outs.take s.out.length hc5).1) ?_
  intro hk5
  rw [g1]
  subst g2
  refine CJ.env (L' := [(13, .pointer (some ⟨b13, 0, none⟩)), (12, .int .i64 (s.steps : Int)), (11, .pointer (some ⟨b11, 0, none⟩))]) (by exact kEsub) ?_
  (refine CJ.draws mixed 37 [cel b13 _ _, cel b11 _ _] (by exact kGives) (dom_of (by kernel_rfl)) ?_)
  ((first | refine kAjB 0 ?_ | refine kAjS 0 ?_); (first | refine kAjB 1 ?_ | refine kAjS 1 ?_); (first | refine kAjB 2 ?_ | refine kAjS 2 ?_); (first | refine kAjB 3 ?_ | refine kAjS 3 ?_))
  rw [show ((13 : Int) == 13) = true from rfl]
  ((first | refine kAjB 4 ?_ | refine kAjS 4 ?_); (first | refine kAjB 5 ?_ | refine kAjS 5 ?_); (first | refine kAjB 6 ?_ | refine kAjS 6 ?_); (first | refine kAjB 7 ?_ | refine kAjS 7 ?_))
  rw [beq_self_eq_true]
  ((first | refine kAjB 8 ?_ | refine kAjS 8 ?_); (first | refine kAjB 9 ?_ | refine kAjS 9 ?_); (first | refine kAjB 10 ?_ | refine kAjS 10 ?_); (first | refine kAjB 11 ?_ | refine kAjS 11 ?_); (first | refine kAjB 12 ?_ | refine kAjS 12 ?_); (first | refine kAjB 13 ?_ | refine kAjS 13 ?_); (first | refine kAjB 14 ?_ | refine kAjS 14 ?_))
  rw [decide_eq_true (show (s.read : Int) ≤ (r.read : Int) by omega)]
  ((first | refine kAjB 15 ?_ | refine kAjS 15 ?_); (first | refine kAjB 16 ?_ | refine kAjS 16 ?_); (first | refine kAjB 17 ?_ | refine kAjS 17 ?_); (first | refine kAjB 18 ?_ | refine kAjS 18 ?_); (first | refine kAjB 19 ?_ | refine kAjS 19 ?_); (first | refine kAjB 20 ?_ | refine kAjS 20 ?_); (first | refine kAjB 21 ?_ | refine kAjS 21 ?_); (first | refine kAjB 22 ?_ | refine kAjS 22 ?_); (first | refine kAjB 23 ?_ | refine kAjS 23 ?_))
  rw [decide_eq_true (show (s.out.length : Int) ≤ (r.out.length : Int) by omega)]
  ((first | refine kAjB 24 ?_ | refine kAjS 24 ?_); (first | refine kAjB 25 ?_ | refine kAjS 25 ?_); (first | refine kAjB 26 ?_ | refine kAjS 26 ?_); (first | refine kAjB 27 ?_ | refine kAjS 27 ?_); (first | refine kAjB 28 ?_ | refine kAjS 28 ?_); (first | refine kAjB 29 ?_ | refine kAjS 29 ?_); (first | refine kAjB 30 ?_ | refine kAjS 30 ?_); (first | refine kAjB 31 ?_ | refine kAjS 31 ?_); (first | refine kAjB 32 ?_ | refine kAjS 32 ?_))
  (apply AJ.pur (i := 33); exact rfl; exact rfl; exact rfl; exact rfl; exact rfl; exact rfl; exact rfl; exact rfl; exact rfl; exact OpP.sliceTo kEv kEv hk5)
  refine AJ.loudG (i := 34) (by kernel_rfl) (by kernel_rfl) rfl (by kernel_rfl) (by kernel_rfl) rfl rfl rfl rfl rfl rfl rfl (OpS.callAll (fun w h mm sa => outputs_spec w _ _ s.out (r.out.take s.out.length) (hqc _ w h _ (mm.tail.tail.tail.tail) sa).outs ((hrc _ w h _ (mm.tail.tail.tail.tail.skip) sa).outs.take s.out.length hc5).2 (by simp only [maxLen]; omega)) (by exact kEv) inferInstance (by exact kEvl) (by exact rfl)) ?_ ?_
  rotate_left
  · rintro _ _ h; exact h.elim
  rintro _ _ ⟨N5, ⟨rfl, rfl⟩, rfl⟩
  refine ⟨by (repeat (first | exact Gives.nil _ | (apply Gives.cons; (focus (exact Takes.here _ _))) | apply Gives.drop | apply Gives.skipApp)), ?_⟩
  rw [hout]
  ((first | refine kAjB 35 ?_ | refine kAjS 35 ?_); (first | refine kAjB 36 ?_ | refine kAjS 36 ?_))
  (refine AJ.done (by kernel_rfl) (by kernel_rfl) rfl (by kernel_rfl) ?_)
  refine kAutoB ?_
  exact XJ.ret1 rfl rfl [] (by (repeat (first | exact Gives.refl _ | apply Gives.drop | apply Gives.skipApp))) ⟨rfl, rfl⟩
end Go.Proofs.YtgmapenlgammfaaGreatDoor
