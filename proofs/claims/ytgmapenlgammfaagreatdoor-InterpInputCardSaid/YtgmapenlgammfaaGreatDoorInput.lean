/- The law InterpInput: the walk. -/
import Derived.Test.YtgmapenlgammfaaGreatDoorFuel
set_option linter.all false
namespace Go.Proofs.YtgmapenlgammfaaGreatDoor
open Go
theorem getD_zeros (l : List Int) (i : Nat) : l.getD i 0 = (l ++ [0, 0, 0]).getD i 0 := by
  simp only [List.getD_eq_getElem?_getD, List.getElem?_append]
  split
  · rfl
  · rename_i h
    rw [List.getElem?_eq_none (by omega)]
    generalize i - l.length = j
    rcases j with _ | _ | _ | j <;> rfl
theorem getD_more (l q : List Int) {n i : Nat} (hi : i < n) (hn : n ≤ l.length) : l.getD i 0 = (l.take n ++ q).getD i 0 := by
  simp only [List.getD_eq_getElem?_getD, List.getElem?_append]
  rw [if_pos (by simp; omega), List.getElem?_take, if_pos hi]
theorem IntsR.take {w : World} {A : Option Addr} {n c : Nat} {l : List Int} (h : IntsR w (.slice A n c) l) (k : Nat) (hk : k ≤ n) : k ≤ c ∧ n = l.length ∧ RowsB w 1 A (((l.take k).map intV).map fun u => [u]) := by
  obtain ⟨A', c', e, hc, hr⟩ := h
  simp only [Value.slice.injEq] at e
  obtain ⟨rfl, rfl, rfl⟩ := e
  refine ⟨by omega, rfl, ?_⟩
  intro i x e
  refine hr i x ?_
  rw [List.map_take, List.map_take, List.getElem?_take] at e
  split at e
  · exact e
  · cases e
theorem mem_zeros {l : List Int} (h : ∀ x ∈ l, I32 x) : ∀ x ∈ l ++ [0, 0, 0], I32 x := fun x hx => by
  rcases List.mem_append.1 hx with hx | hx
  · exact h x hx
  · simp at hx; subst hx; exact .zero
theorem input_spec (w0 : World) (hT : Tab w0) (p : Prg) (pcs : List Value) (hR : PrgR w0 p pcs) (m : Mem) (mcs : List Value) (hM : MemR w0 mcs m) (h32 : Mem32 m) (hL : MemL m) (inV : Value) (inp : List Int) (hin : IntsR w0 inV inp) (hi32 : ∀ x ∈ inp, I32 x) (moV : Value) (more : List Int) (hmo : IntsR w0 moV more) (hm32 : ∀ x ∈ more, I32 x) (t : Int) :
    Spec Tryz.prog w0 7 #[.agg pcs.toArray, .int .i64 t, .agg mcs.toArray, inV, moV] [] (Is (.bool true)) := by
  have hA := awake_spec w0 hT
  have hG := Great16_spec w0 p pcs hR m mcs hM hL.shared.1 (fun q hq => (hL.each q hq).1) inV inp hin
  have hG2 := Great16_spec w0 p pcs hR m mcs hM hL.shared.1 (fun q hq => (hL.each q hq).1) moV more hmo
  have hJ : Fit p → Small m inp → _ := fun hf hs => Job_spec w0 hT p pcs hf hR t m mcs hM h32 inV inp hin hi32 (by have := hs.inp; omega) 3000 (by omega)
  have hRun : Fit p → _ := fun hf => runnable_spec w0 hT p pcs hR hf m mcs hM t
  have hM0 := hM
  have hin0 := hin
  have hmo0 := hmo
  obtain ⟨A1, c1, A2, c2, rfl, -, -, -, -⟩ := hR.ex
  obtain ⟨u, v, rfl, hu, hv⟩ := hM
  obtain ⟨A3, c3, vs3, rfl, -, -, -, -⟩ := hu
  obtain ⟨A4, c4, vs4, rfl, -, -, -, -⟩ := hv
  obtain ⟨A5, c5, rfl, hc5, hr5⟩ := hin
  obtain ⟨A6, c6, rfl, hc6, hr6⟩ := hmo
  refine Spec.enter (args := [_, _, _, _, _]) Tryz.func7 rfl rfl rfl (fun F => ?_)
  refine kAutoB ?_
  (apply RL.boxR; exact kEv; exact rfl; intro b5)
  (apply RL.boxR; exact kEv; exact rfl; intro b7)
  refine kAutoB ?_
  (apply RL.callIs; exact kEv; exact inferInstance; exact kEvl; exact hA; exact rfl)
  refine kAutoB ?_
  (apply RL.callIs; exact kEv; exact inferInstance; exact kEvl; exact hG; exact rfl)
  cases e1 : greatL p m inp
  case true =>
    refine kAutoB ?_
    exact XJ.ret1 rfl rfl [] (by exact kGives) ⟨rfl, rfl⟩
  obtain ⟨hf, hs⟩ := small_of_great e1
  refine kAutoB ?_
  (apply RL.callIs; exact kEv; exact inferInstance; exact kEvl; exact hG2; exact rfl)
  cases e3 : greatL p m more
  case true =>
    refine kAutoB ?_
    exact XJ.ret1 rfl rfl [] (by exact kGives) ⟨rfl, rfl⟩
  have hs2 := (small_of_great e3).2
  have hil := hs.inp
  have hml := hs2.inp
  refine kAutoB ?_
  (apply RL.callIs; exact kEv; exact inferInstance; exact kEvl; exact hRun hf; exact rfl)
  cases e2 : runB p t m
  case false =>
    refine kAutoB ?_
    exact XJ.ret1 rfl rfl [] (by exact kGives) ⟨rfl, rfl⟩
  have hr := runs_of e2
  refine kAutoB ?_
  (apply RL.callK; exact kEv; exact inferInstance; exact kEvl; exact (Takes.nil _); exact (hJ hf hs); exact rfl)
  rintro _ N1 ⟨rcs, rfl, hrc⟩
  (apply RL.alloc; exact rfl; exact rfl; intro b11)
  generalize hrr : jobAll p t m inp 3000 = r at hrc
  refine RL.factS (p := ∃ u v A c, rcs = [u, v, .slice A r.out.length c, .int .i64 r.read, .int .i64 r.steps, .int .i64 r.err] ∧ u.oneCell' = true ∧ v.oneCell' = true) (fun w h mm sa => (hrc _ w h _ (mm.tail) sa).cells) ?_
  rintro ⟨u1, u2, A7, c7, rfl, ho1, ho2⟩
  (apply RL.storeA; exact kEv; exact kEv; exact Takes.here _ _; exact rfl; exact (by simp only [List.all_cons, List.all_nil, ho1, ho2]; rfl); exact rfl)
  refine kAutoB ?_
  have hsz := hr.sizes hf h32 hi32 hs 3000 (by omega)
  rw [hrr] at hsz
  (apply RL.buildSlice; exact rfl; exact kEvl; exact rfl; (intro w; kernel_rfl); exact rfl; intro b40)
  refine RL.gives (row_of_cel (n := 0) (sz := 1) rfl (by simp) (by decide) _) ?_
  refine kAutoB ?_
  refine RL.append (by exact kEv) (by exact kEv) (Takes.here _ _) (fun h _ => base_src (by simp) (oneInt inp) hr5) (by simp only [maxLen]; omega) (by omega) rfl (fun A8 c8 => ?_)
  refine kAutoB ?_
  (apply RL.buildSlice; exact rfl; exact kEvl; exact rfl; (intro w; kernel_rfl); exact rfl; intro b43)
  rw [Nat.zero_add]
  rw [List.nil_append]
  refine RL.append (by exact kEv) (by exact kEv) (by exact kTake) (fun h _ => ⟨rfl, (fun u hu => by simp at hu; subst hu; rfl), .inr ⟨_, _, _, rfl, HasAt.pt (Takes.here _ _) atAll⟩⟩) (m := 3) (by simp only [maxLen]; omega) (by omega) rfl (fun A9 c9 => ?_)
  refine kAutoB ?_
  have hz32 := mem_zeros hi32
  have hzg := getD_zeros inp
  have hzl : inp.length + 3 = (inp ++ [0, 0, 0]).length := by simp
  have hzm : inp.map intV ++ [.int .i32 0, .int .i32 0, .int .i32 0] = (inp ++ [0, 0, 0]).map intV := by simp [intV]
  rw [hzm, hzl]
  generalize inp ++ [0, 0, 0] = zs at *
  refine CJ.gives (M' := cel b11 37 [u1, u2, .slice A7 r.out.length c7, .int .i64 r.read, .int .i64 r.steps, .int .i64 r.err] :: rcel b7 29 _ :: rcel b5 25 _ :: rowI (.slice A9 zs.length c9) zs :: (N1 ++ F))
    (Gives.cons (Takes.there (Takes.there (Takes.here _ _))) (Gives.cons (Takes.there (Takes.there (Takes.appR _ (Takes.here _ _)))) (Gives.cons (Takes.there (Takes.there (Takes.appR _ (Takes.here _ _)))) (Gives.cons (Takes.here _ _) (Gives.drop (Gives.refl _)))))) ?_
  (refine CJ.draws mixed 8 [cel b11 _ _, rcel b7 _ _, rcel b5 _ _] (by exact kGives) (dom_of (by kernel_rfl)) ?_)
  ((first | refine kAjB 0 ?_ | refine kAjS 0 ?_); (first | refine kAjB 1 ?_ | refine kAjS 1 ?_); (first | refine kAjB 2 ?_ | refine kAjS 2 ?_); (first | refine kAjB 3 ?_ | refine kAjS 3 ?_); (first | refine kAjB 4 ?_ | refine kAjS 4 ?_))
  (refine AJ.loud1 (i := 5) (by kernel_rfl) (by kernel_rfl) rfl (by kernel_rfl) (by kernel_rfl) rfl rfl rfl rfl rfl rfl (OpS.callAll (fun w h mm sa => Job_spec w (hT.sat sa) p _ hf (hR.up sa.below) t m _ (hM0.up sa.below) h32 _ zs (row_ints (Takes.there (Takes.there (Takes.there (Takes.here _ _)))) mm sa) hz32 (by omega) 3000 (by omega)) (by exact kEv) inferInstance (by exact kEvl) (by exact rfl)) ?_ ?_)
  rotate_left
  · rintro _ _ h; exact h.elim
  rintro _ _ ⟨N2, ⟨scs, rfl, hsc⟩, rfl⟩
  refine ⟨by (repeat (first | exact Gives.nil _ | (apply Gives.cons; (focus (exact Takes.here _ _))) | apply Gives.drop | apply Gives.skipApp)), ?_⟩
  rw [hr.input inp zs 3000 (fun i _ => hzg i), hrr] at hsc
  (refine AJ.loud1 (i := 6) (by kernel_rfl) (by kernel_rfl) rfl (by kernel_rfl) (by kernel_rfl) rfl rfl rfl rfl rfl rfl (OpS.callAll (fun w h mm sa => same_spec w _ scs r r (hrc _ w h _ (mm.skip.tail.tail.tail.tail) sa) (hsc _ w h _ mm sa) hsz.1 (by simp only [maxLen]; omega) true) (by exact kEv) inferInstance (by exact kEvl) (by exact rfl)) ?_ ?_)
  rotate_left
  · rintro _ _ h; exact h.elim
  rintro _ _ ⟨N3, ⟨rfl, rfl⟩, rfl⟩
  refine ⟨by (repeat (first | exact Gives.nil _ | (apply Gives.cons; (focus (exact Takes.here _ _))) | apply Gives.drop | apply Gives.skipApp)), ?_⟩
  rw [sameB_refl]
  ((first | refine kAjB 7 ?_ | refine kAjS 7 ?_))
  (refine AJ.done (by kernel_rfl) (by kernel_rfl) rfl (by kernel_rfl) ?_)
  refine XJ.gives (M' := cel b11 37 _ :: rcel b7 29 _ :: rcel b5 25 _ :: (N1 ++ F)) (Gives.skipApp (Gives.skipApp (Gives.cons (Takes.here _ _) (Gives.cons (Takes.here _ _) (Gives.cons (Takes.here _ _) (Gives.drop (Gives.refl _))))))) ?_
  refine kAutoB ?_
  cases hgt : decide ((r.read : Int) > (inp.length : Int))
  case true =>
    refine kAutoB ?_
    exact XJ.ret1 rfl rfl [] (by (repeat (first | exact Gives.refl _ | apply Gives.drop | apply Gives.skipApp))) ⟨rfl, rfl⟩
  have hle : r.read ≤ inp.length := by have := of_decide_eq_false hgt; omega
  have htk := IntsR.take hin0 r.read hle
  refine kAutoB ?_
  (apply RL.buildSlice; exact rfl; exact kEvl; exact rfl; (intro w; kernel_rfl); exact rfl; intro b58)
  refine RL.gives (row_of_cel (n := 0) (sz := 1) rfl (by simp) (by decide) _) ?_
  refine kAutoB ?_
  apply RL.pur; (exact OpP.sliceTo kEv kEv htk.1); exact rfl
  refine RL.append (by exact kEv) (by exact kEv) (Takes.here _ _) (fun h _ => base_src (xs := (inp.take r.read).map intV) (by simp; omega) (oneInt _) htk.2.2) (by simp only [maxLen]; omega) (by omega) rfl (fun A8 c8 => ?_)
  refine kAutoB ?_
  rw [Nat.zero_add]
  rw [List.nil_append]
  refine RL.append (by exact kEv) (by exact kEv) (Takes.here _ _) (fun h _ => base_src (by simp) (oneInt more) hr6) (by simp only [maxLen]; omega) (by omega) rfl (fun A10 c10 => ?_)
  refine kAutoB ?_
  have hol : r.read + more.length = (inp.take r.read ++ more).length := by simp; omega
  have hom : (inp.take r.read).map intV ++ more.map intV = (inp.take r.read ++ more).map intV := by simp
  have ho32 : ∀ x ∈ inp.take r.read ++ more, I32 x := fun x hx => (List.mem_append.1 hx).elim (fun h => hi32 x (List.mem_of_mem_take h)) (hm32 x)
  have hog : ∀ i, i < r.read → inp.getD i 0 = (inp.take r.read ++ more).getD i 0 := fun i hi => getD_more inp more hi hle
  rw [hom, hol]
  generalize inp.take r.read ++ more = os at *
  refine CJ.gives (M' := cel b11 37 [u1, u2, .slice A7 r.out.length c7, .int .i64 r.read, .int .i64 r.steps, .int .i64 r.err] :: rcel b7 29 _ :: rcel b5 25 _ :: rowI (.slice A10 os.length c10) os :: (N1 ++ F))
    (Gives.cons (Takes.there (Takes.here _ _)) (Gives.cons (Takes.there (Takes.here _ _)) (Gives.cons (Takes.there (Takes.here _ _)) (Gives.cons (Takes.here _ _) (Gives.refl _))))) ?_
  refine CJ.env (L' := [(13, .slice A10 os.length c10), (11, .pointer (some ⟨b11, 0, none⟩)), (7, .pointer (some ⟨b7, 0, none⟩)), (5, .pointer (some ⟨b5, 0, none⟩)), (1, .int .i64 t)]) (by exact kEsub) ?_
  (refine CJ.draws mixed 8 [cel b11 _ _, rcel b7 _ _, rcel b5 _ _] (by exact kGives) (dom_of (by kernel_rfl)) ?_)
  ((first | refine kAjB 0 ?_ | refine kAjS 0 ?_); (first | refine kAjB 1 ?_ | refine kAjS 1 ?_); (first | refine kAjB 2 ?_ | refine kAjS 2 ?_); (first | refine kAjB 3 ?_ | refine kAjS 3 ?_); (first | refine kAjB 4 ?_ | refine kAjS 4 ?_))
  (refine AJ.loud1 (i := 5) (by kernel_rfl) (by kernel_rfl) rfl (by kernel_rfl) (by kernel_rfl) rfl rfl rfl rfl rfl rfl (OpS.callAll (fun w h mm sa => Job_spec w (hT.sat sa) p _ hf (hR.up sa.below) t m _ (hM0.up sa.below) h32 _ os (row_ints (Takes.there (Takes.there (Takes.there (Takes.here _ _)))) mm sa) ho32 (by omega) 3000 (by omega)) (by exact kEv) inferInstance (by exact kEvl) (by exact rfl)) ?_ ?_)
  rotate_left
  · rintro _ _ h; exact h.elim
  rintro _ _ ⟨N4, ⟨qcs, rfl, hqc⟩, rfl⟩
  refine ⟨by (repeat (first | exact Gives.nil _ | (apply Gives.cons; (focus (exact Takes.here _ _))) | apply Gives.drop | apply Gives.skipApp)), ?_⟩
  rw [hr.input inp os 3000 (fun i hi => hog i (by rw [hrr] at hi; exact hi)), hrr] at hqc
  (refine AJ.loud1 (i := 6) (by kernel_rfl) (by kernel_rfl) rfl (by kernel_rfl) (by kernel_rfl) rfl rfl rfl rfl rfl rfl (OpS.callAll (fun w h mm sa => same_spec w _ qcs r r (hrc _ w h _ (mm.skip.tail.tail.tail.tail) sa) (hqc _ w h _ mm sa) hsz.1 (by simp only [maxLen]; omega) true) (by exact kEv) inferInstance (by exact kEvl) (by exact rfl)) ?_ ?_)
  rotate_left
  · rintro _ _ h; exact h.elim
  rintro _ _ ⟨N5, ⟨rfl, rfl⟩, rfl⟩
  refine ⟨by (repeat (first | exact Gives.nil _ | (apply Gives.cons; (focus (exact Takes.here _ _))) | apply Gives.drop | apply Gives.skipApp)), ?_⟩
  rw [sameB_refl]
  ((first | refine kAjB 7 ?_ | refine kAjS 7 ?_))
  (refine AJ.done (by kernel_rfl) (by kernel_rfl) rfl (by kernel_rfl) ?_)
  refine kAutoB ?_
  exact XJ.ret1 rfl rfl [] (by (repeat (first | exact Gives.refl _ | apply Gives.drop | apply Gives.skipApp))) ⟨rfl, rfl⟩
end Go.Proofs.YtgmapenlgammfaaGreatDoor
