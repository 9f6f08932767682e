import Derived.Test.YtgmapenlgammfaaDoorGK
import Derived.Test.YtgmapenlgammfaaDoorGF
set_option linter.all false
set_option maxRecDepth 100000
/- The law InterpApart: the walk. -/
namespace Go.Proofs.YtgmapenlgammfaaDoor
open Go
section
attribute [local semireducible] Gives
theorem Gives.run {M N : List HProp} (g : Gives M N) {h : Frag} (m : star M h) : star N h := g h m
theorem cubM_put {i : Nat} {vs : List Value} {uss : List (List Value)} {q : List (List (List Int))} {v : Value} {us : List Value} {m : List (List Int)} (h1 : vs[i]? = some v) (h2 : uss[i]? = some us) (h3 : i < q.length) (F : List HProp) : Gives (matM v us m ++ (cubM (vs.eraseIdx i) (uss.eraseIdx i) (q.eraseIdx i) ++ F)) (cubM vs uss (q.set i m) ++ F) := fun h mm => by
  have := (cubM_take i vs uss (q.set i m) v us m h1 h2 (by simp [h3])).append_right F
  rw [eraseIdx_set, List.append_assoc] at this
  exact star.perm this.symm mm
end
theorem Lens.part {vs : List Value} {uss : List (List Value)} {q : List (List (List Int))} (h : Lens vs uss q) (t : Nat) (d : Int) (i : Nat) : Lens vs uss (partO q t d i) := by
  refine ⟨by rw [partO_len]; exact h.l1, by rw [partO_len]; exact h.l2, ?_⟩
  intro j us m h1 h2
  rw [partO_get] at h2
  obtain ⟨x, hx, rfl⟩ := Option.map_eq_some_iff.1 h2
  rw [h.each j us x h1 hx]
  split
  · simp [addTo]
  · rfl
/-- The first j lists are changed. -/
def partI (q : List (List Int)) (d : Int) (j : Nat) : List (List Int) := q.mapIdx fun k l => if k < j then l.map fun x => IntKind.i32.wrap (x + d) else l
theorem partI_len (q : List (List Int)) (d : Int) (j : Nat) : (partI q d j).length = q.length := by simp [partI]
theorem partI_get (q : List (List Int)) (d : Int) (i j : Nat) : (partI q d i)[j]? = q[j]?.map fun l => if j < i then l.map fun x => IntKind.i32.wrap (x + d) else l := by simp [partI]
theorem partI_zero (q : List (List Int)) (d : Int) : partI q d 0 = q := by
  apply List.ext_getElem?
  intro j
  rw [partI_get]
  cases q[j]? <;> simp
theorem partI_all (q : List (List Int)) (d : Int) : partI q d q.length = addTo d q := by
  apply List.ext_getElem?
  intro j
  rw [partI_get, addTo, List.getElem?_map]
  rcases Nat.lt_or_ge j q.length with h | h
  · simp [h]
  · rw [List.getElem?_eq_none h]; rfl
theorem partI_set (q : List (List Int)) (d : Int) {j : Nat} (hj : j < q.length) : partI q d (j + 1) = (partI q d j).set j (q[j].map fun x => IntKind.i32.wrap (x + d)) := by
  apply List.ext_getElem?
  intro k
  rw [List.getElem?_set, partI_get, partI_get, partI_len]
  by_cases h : j = k
  · subst h
    simp [hj]
  · rw [if_neg h]
    congr 1
    funext x
    simp only [show (k < j + 1) = (k < j) by rw [eq_iff_iff]; omega]
theorem partI_at (q : List (List Int)) (d : Int) {j : Nat} (hj : j < q.length) : (partI q d j)[j]? = some q[j] := by
  rw [partI_get]
  simp [hj]
def partC (l : List Int) (d : Int) (j : Nat) : List Int := l.mapIdx fun k x => if k < j then IntKind.i32.wrap (x + d) else x
theorem partC_len (l : List Int) (d : Int) (j : Nat) : (partC l d j).length = l.length := by simp [partC]
theorem partC_get (l : List Int) (d : Int) (i j : Nat) : (partC l d i)[j]? = l[j]?.map fun x => if j < i then IntKind.i32.wrap (x + d) else x := by simp [partC]
theorem partC_zero (l : List Int) (d : Int) : partC l d 0 = l := by
  apply List.ext_getElem?
  intro j
  rw [partC_get]
  cases l[j]? <;> simp
theorem partC_all (l : List Int) (d : Int) : partC l d l.length = l.map fun x => IntKind.i32.wrap (x + d) := by
  apply List.ext_getElem?
  intro j
  rw [partC_get, List.getElem?_map]
  rcases Nat.lt_or_ge j l.length with h | h
  · simp [h]
  · rw [List.getElem?_eq_none h]; rfl
theorem partC_set (l : List Int) (d : Int) {j : Nat} (hj : j < l.length) : (partC l d (j + 1)).map intV = ((partC l d j).map intV).set j (.int .i32 (IntKind.i32.wrap (l[j] + d))) := by
  apply List.ext_getElem?
  intro k
  rw [List.getElem?_set, List.getElem?_map, List.getElem?_map, partC_get, partC_get, List.length_map, partC_len]
  by_cases h : j = k
  · subst h
    simp [hj, intV]
  · rw [if_neg h]
    simp only [show (k < j + 1) = (k < j) by rw [eq_iff_iff]; omega]
theorem partC_at (l : List Int) (d : Int) {j : Nat} (hj : j < l.length) : ((partC l d j).map intV)[j]? = some (.int .i32 l[j]) := by
  rw [List.getElem?_map, partC_get]
  simp [hj, intV]
theorem row_of_len {E sz n n' : Nat} {v : Value} {xs : List Value} (h : n = n') : row E sz v n xs = row E sz v n' xs := by rw [h]
theorem other_32 {m : Mem} (h : Mem32 m) (t : Nat) (d : Int) : Mem32 (otherM m t d) := by
  refine ⟨?_, h.shared⟩
  intro q hq l hl x hx
  simp only [otherM] at hq
  obtain ⟨i, hi, rfl⟩ := List.getElem_of_mem hq
  have e := partO_get m.arrays t d m.arrays.length i
  rw [List.getElem?_eq_getElem hi] at e
  obtain ⟨z, hz, e2⟩ := Option.map_eq_some_iff.1 e.symm
  rw [← e2] at hl
  have hzm := List.mem_of_getElem? hz
  split at hl
  · obtain ⟨y, hy, rfl⟩ := List.mem_map.1 hl
    obtain ⟨x', hx', rfl⟩ := List.mem_map.1 hx
    exact I32.wrap _
  · exact h.arrays z hzm l hl x hx
theorem apart_spec (w0 : World) (hT : Tab w0) (p : Prg) (pcs : List Value) (hR : PrgR w0 p pcs) (m : Mem) (mcs : List Value) (hM : MemR w0 mcs m) (h32 : Mem32 m) (hL : MemL m) (inV : Value) (inp : List Int) (hin : IntsR w0 inV inp) (hi32 : ∀ x ∈ inp, I32 x) (t d : Int) :
    Spec Tryd.prog w0 4 #[.agg pcs.toArray, .int .i64 t, .agg mcs.toArray, inV, .int .i32 d] [] (Is (.bool true)) := by
  have hA := awake_spec w0 hT
  have hG := Great16_spec w0 p pcs hR m mcs hM hL.shared.1 (fun q hq => (hL.each q hq).1) inV inp hin
  have hRun : Fit p → _ := fun hf => runnable_spec w0 hT p pcs hR hf m mcs hM t
  have hM0 := hM
  obtain ⟨A1, c1, A2, c2, rfl, hcs, hc2, hr1, hts⟩ := hR.ex
  obtain ⟨u, v, rfl, hu, hv⟩ := hM
  obtain ⟨A3, c3, vs3, rfl, -, -, -, -⟩ := hu
  obtain ⟨A4, c4, vs4, rfl, -, -, -, -⟩ := hv
  refine Spec.enter (args := [_, _, _, _, _]) Tryd.func4 rfl rfl rfl (fun F => ?_)
  refine kAutoB ?_
  (apply RL.boxR; exact kEv; exact rfl; intro b5)
  (apply RL.boxR; exact kEv; exact rfl; intro b7)
  refine kAutoB ?_
  (apply RL.callIs; exact kEv; exact inferInstance; exact kEvl; exact hA; exact rfl)
  refine kAutoB ?_
  (apply RL.callIs; exact kEv; exact inferInstance; exact kEvl; exact hG; exact rfl)
  cases e1 : greatL p m inp
  case true =>
    refine kAutoB ?_
    exact XJ.ret1 rfl rfl [] (by exact kGives) ⟨rfl, rfl⟩
  obtain ⟨hf, hs⟩ := small_of_great e1
  have hil := hs.inp
  refine kAutoB ?_
  (apply RL.callIs; exact kEv; exact inferInstance; exact kEvl; exact hRun hf; exact rfl)
  cases e2 : runB p t m
  case false =>
    refine kAutoB ?_
    exact XJ.ret1 rfl rfl [] (by exact kGives) ⟨rfl, rfl⟩
  have hr := runs_of e2
  obtain ⟨tn, rfl⟩ : ∃ n : Nat, t = (n : Int) := ⟨t.toNat, by have := hr.lo; omega⟩
  have hal := hs.len
  refine kAutoB ?_
  (apply RL.callK; exact kEv; exact inferInstance; exact kEvl; exact (Takes.nil _); exact (Clone_spec w0 m _ hM0 hs); exact rfl)
  rintro _ _ ⟨vA, vS, vs, uss, us, rfl, hLs, hus, rfl⟩
  refine RL.gives (M' := row 27 1 vA m.arrays.length vs :: row 39 1 vS m.shared.length us :: rcel b7 29 [.slice A3 m.arrays.length c3, .slice A4 m.shared.length c4] :: rcel b5 25 [.slice A1 p.shared.length c1, .slice A2 p.tasks.length c2] :: (cubM vs uss m.arrays ++ (innerM us m.shared ++ F))) (by
    unfold cubA matM
    rw [List.append_assoc]
    exact Gives.cons (Takes.here _ _) (Gives.cons (Takes.appR _ (Takes.here _ _)) (Gives.cons (Takes.appR _ (Takes.appR _ (Takes.here _ _))) (Gives.cons (Takes.appR _ (Takes.appR _ (Takes.here _ _))) (Gives.refl _))))) ?_
  refine RL.factS (p := (∃ A c, vA = .slice A m.arrays.length c) ∧ ∃ A c, vS = .slice A m.shared.length c) (fun w h mm sa => ⟨row_shape mm, row_shape mm.tail⟩) ?_
  rintro ⟨⟨Av, cv, rfl⟩, ⟨As, cs', rfl⟩⟩
  (apply RL.alloc; exact rfl; exact rfl; intro b11)
  (apply RL.storeA; exact kEv; exact kEv; exact kTake; exact rfl; exact rfl; exact rfl)
  refine kAutoB ?_
  refine CJ.gives (M' := cel b11 29 [.slice Av m.arrays.length cv, .slice As m.shared.length cs'] :: row 27 1 (.slice Av m.arrays.length cv) m.arrays.length vs :: row 39 1 (.slice As m.shared.length cs') m.shared.length us :: rcel b7 29 [.slice A3 m.arrays.length c3, .slice A4 m.shared.length c4] :: rcel b5 25 [.slice A1 p.shared.length c1, .slice A2 p.tasks.length c2] :: (cubM vs uss (partO m.arrays tn d 0) ++ (innerM us m.shared ++ F))) (by rw [partO_zero]; exact Gives.refl _) ?_
  refine CJ.loop (σ := Nat) (fun i => i ≤ m.arrays.length) (fun i => [(38, .int .i64 (i : Int)), (37, .int .i64 m.arrays.length), (11, .pointer (some ⟨b11, 0, none⟩)), (7, .pointer (some ⟨b7, 0, none⟩)), (5, .pointer (some ⟨b5, 0, none⟩)), (4, .int .i32 d), (3, inV), (1, .int .i64 (tn : Int))])
    (fun i => cel b11 29 [.slice Av m.arrays.length cv, .slice As m.shared.length cs'] :: row 27 1 (.slice Av m.arrays.length cv) m.arrays.length vs :: row 39 1 (.slice As m.shared.length cs') m.shared.length us :: rcel b7 29 [.slice A3 m.arrays.length c3, .slice A4 m.shared.length c4] :: rcel b5 25 [.slice A1 p.shared.length c1, .slice A2 p.tasks.length c2] :: (cubM vs uss (partO m.arrays tn d i) ++ (innerM us m.shared ++ F)))
    (fun i => m.arrays.length - i) 0 (Nat.zero_le _) (by exact kEsub) (by exact kGives) ?_
  intro i hi
  refine kAutoB ?_
  cases hlt : decide ((i : Int) < (m.arrays.length : Int))
  case false =>
    have hge : i = m.arrays.length := by have := of_decide_eq_false hlt; omega
    subst hge
    refine kAutoB ?_
    (apply RL.callK; exact kEv; exact inferInstance; exact kEvl; exact (Takes.nil _); exact (Job_spec w0 hT p _ hf hR tn m _ hM0 h32 inV inp hin hi32 (by omega) 3000 (by omega)); exact rfl)
    rintro _ N1 ⟨rcs, rfl, hrc⟩
    (apply RL.alloc; exact rfl; exact rfl; intro b16)
    have hap := hr.apart inp 3000 d
    have hsz := hr.sizes hf h32 hi32 hs 3000 (by omega)
    rw [Int.toNat_natCast] at hap
    generalize hrr : jobAll p tn m inp 3000 = r at hrc hap hsz
    refine RL.factS (p := ∃ u v A c, rcs = [u, v, .slice A r.out.length c, .int .i64 r.read, .int .i64 r.steps, .int .i64 r.err] ∧ u.oneCell' = true ∧ v.oneCell' = true) (fun w h mm sa => (hrc _ w h _ (mm.tail) sa).cells) ?_
    rintro ⟨u1, u2, B1, d1, rfl, ho1, ho2⟩
    (apply RL.storeA; exact kEv; exact kEv; exact Takes.here _ _; exact rfl; exact (by simp only [List.all_cons, List.all_nil, ho1, ho2]; rfl); exact rfl)
    refine RL.gives (M' := cel b16 44 [u1, u2, .slice B1 r.out.length d1, .int .i64 r.read, .int .i64 r.steps, .int .i64 r.err] :: cel b11 29 [.slice Av m.arrays.length cv, .slice As m.shared.length cs'] :: row 27 1 (.slice Av m.arrays.length cv) m.arrays.length vs :: row 39 1 (.slice As m.shared.length cs') m.shared.length us :: rcel b7 29 [.slice A3 m.arrays.length c3, .slice A4 m.shared.length c4] :: rcel b5 25 [.slice A1 p.shared.length c1, .slice A2 p.tasks.length c2] :: (N1 ++ (cubM vs uss (partO m.arrays tn d m.arrays.length) ++ (innerM us m.shared ++ F)))) (Gives.cons (Takes.here _ _) (Gives.cons (Takes.appR _ (Takes.here _ _)) (Gives.cons (Takes.appR _ (Takes.here _ _)) (Gives.cons (Takes.appR _ (Takes.here _ _)) (Gives.cons (Takes.appR _ (Takes.here _ _)) (Gives.cons (Takes.appR _ (Takes.here _ _)) (Gives.refl _))))))) ?_
    refine kAutoB ?_
    have hO : ∀ (w : World) (h : Frag) (x1 x2 x3 x4 : HProp), star (x1 :: x2 :: row 27 1 (.slice Av m.arrays.length cv) m.arrays.length vs :: row 39 1 (.slice As m.shared.length cs') m.shared.length us :: x3 :: x4 :: (N1 ++ (cubM vs uss (partO m.arrays tn d m.arrays.length) ++ (innerM us m.shared ++ F)))) h → Go.Proofs.YtgmapenlgammfaaDoor.Sat w0 w h →
        MemR w [.slice Av m.arrays.length cv, .slice As m.shared.length cs'] (otherM m tn d) := by
      intro w h x1 x2 x3 x4 mm sa
      have hlen : m.arrays.length = (partO m.arrays tn d m.arrays.length).length := by rw [partO_len]
      have g1 : Gives (x1 :: x2 :: row 27 1 (.slice Av m.arrays.length cv) m.arrays.length vs :: row 39 1 (.slice As m.shared.length cs') m.shared.length us :: x3 :: x4 :: (N1 ++ (cubM vs uss (partO m.arrays tn d m.arrays.length) ++ (innerM us m.shared ++ F)))) (cubA (.slice Av m.arrays.length cv) vs uss (partO m.arrays tn d m.arrays.length) ++ (innerM us m.shared ++ F)) := by
        unfold cubA
        rw [← hlen]
        exact Gives.drop (Gives.drop (Gives.cons (Takes.here _ _) (Gives.drop (Gives.drop (Gives.drop (Gives.skipApp (Gives.refl _)))))))
      have g2 : Gives (x1 :: x2 :: row 27 1 (.slice Av m.arrays.length cv) m.arrays.length vs :: row 39 1 (.slice As m.shared.length cs') m.shared.length us :: x3 :: x4 :: (N1 ++ (cubM vs uss (partO m.arrays tn d m.arrays.length) ++ (innerM us m.shared ++ F)))) (matM (.slice As m.shared.length cs') us m.shared ++ F) := by
        unfold matM
        exact Gives.drop (Gives.drop (Gives.drop (Gives.cons (Takes.here _ _) (Gives.drop (Gives.drop (Gives.skipApp (Gives.skipApp (Gives.refl _))))))))
      exact ⟨_, _, rfl, cubA_R (hLs.part tn d _) (Takes.app _ _) (g1.run mm) sa, matM_R hus (Takes.app _ _) (g2.run mm) sa⟩
    (apply RL.callAll; exact kEv; exact inferInstance; exact kEvl; exact rfl; exact (fun w h mm sa => Job_spec w (hT.sat sa) p _ hf (hR.up sa.below) tn (otherM m tn d) _ (hO w h _ _ _ _ mm sa) (other_32 h32 tn d) inV inp (hin.up sa.below) hi32 (by omega) 3000 (by omega)); exact rfl)
    rintro _ N2 ⟨scs, rfl, hsc⟩
    (apply RL.alloc; exact rfl; exact rfl; intro b17)
    generalize hss : jobAll p tn (otherM m tn d) inp 3000 = s at hsc hap
    refine RL.factS (p := ∃ u v A c, scs = [u, v, .slice A s.out.length c, .int .i64 s.read, .int .i64 s.steps, .int .i64 s.err] ∧ u.oneCell' = true ∧ v.oneCell' = true) (fun w h mm sa => (hsc _ w h _ (mm.tail) sa).cells) ?_
    rintro ⟨u3, u4, B2, d2, rfl, ho3, ho4⟩
    (apply RL.storeA; exact kEv; exact kEv; exact Takes.here _ _; exact rfl; exact (by simp only [List.all_cons, List.all_nil, ho3, ho4]; rfl); exact rfl)
    refine RL.toBase (fun w h mm sa => ?_)
    have hrR := hrc _ w h _ (mm.tail.skip.tail.tail.tail.tail.tail.tail) sa
    have hsR := hsc _ w h _ (mm.tail) sa
    have hoR := hO w h _ _ _ _ mm.tail.skip sa
    have hmR := hM0.up sa.below
    have hb17 := cel_base (Takes.here _ _) mm sa
    have hb16 := cel_base (Takes.here _ _) mm.tail.skip sa
    have hb11 := cel_base (Takes.here _ _) mm.tail.skip.tail sa
    have hb7 := rcel_base (Takes.here _ _) mm.tail.skip.tail.tail.tail.tail sa
    obtain ⟨_, _, _, er, hrC, hrM, hrO⟩ := hrR
    simp only [List.cons.injEq] at er
    obtain ⟨rfl, rfl, rfl, -⟩ := er
    obtain ⟨_, _, _, es, hsC, hsM, hsO⟩ := hsR
    simp only [List.cons.injEq] at es
    obtain ⟨rfl, rfl, rfl, -⟩ := es
    obtain ⟨_, _, eo, hoC, -⟩ := hoR
    simp only [List.cons.injEq] at eo
    obtain ⟨rfl, -, -⟩ := eo
    obtain ⟨_, _, em, hmC, -⟩ := hmR
    simp only [List.cons.injEq] at em
    obtain ⟨rfl, -, -⟩ := em
    obtain ⟨Ar, cr, rfl, -, hatr⟩ := hrC.at_
    obtain ⟨Az, cz, rfl, -, hats⟩ := hsC.at_
    obtain ⟨Ao', co', eo, -, hato⟩ := hoC.at_
    obtain ⟨Am, cm, em, -, hatm⟩ := hmC.at_
    simp only [Value.slice.injEq] at eo em
    obtain ⟨rfl, -, -⟩ := eo
    obtain ⟨rfl, -, -⟩ := em
    have f16a := hb16.at 0 (0 + 0) rfl rfl
    have f16b := hb16.at 1 (0 + 0 + 1) rfl rfl
    have f16c := hb16.at 2 (0 + 2) rfl rfl
    have f16d := hb16.at 3 (0 + 3) rfl rfl
    have f16e := hb16.at 4 (0 + 4) rfl rfl
    have f16f := hb16.at 5 (0 + 5) rfl rfl
    have f17a := hb17.at 0 (0 + 0) rfl rfl
    have f17b := hb17.at 1 (0 + 0 + 1) rfl rfl
    have f17c := hb17.at 2 (0 + 2) rfl rfl
    have f17d := hb17.at 3 (0 + 3) rfl rfl
    have f17e := hb17.at 4 (0 + 4) rfl rfl
    have f17f := hb17.at 5 (0 + 5) rfl rfl
    have f11a := hb11.at 0 (0 + 0) rfl rfl
    have f7a := hb7.at 0 (0 + 0) rfl rfl
    refine RL.gives (M' := []) (Gives.nil _) ?_
    refine kAutoB ?_
    have hle : maxLen = maxLen := rfl
    have hol : r.out.length ≤ maxLen := by simp only [maxLen]; omega
    have q1 : decide (r.out = s.out) = true := decide_eq_true hap.out.symm
    have q2 : (r.err != s.err) = false := by rw [hap.err]; exact bne_self_eq_false _
    have q3 : ((r.steps : Int) != (s.steps : Int)) = false := by rw [hap.steps]; exact bne_self_eq_false _
    have q4 : ((r.read : Int) != (s.read : Int)) = false := by rw [hap.read]; exact bne_self_eq_false _
    have q5 : ((r.mem.arrays.length : Int) != (m.arrays.length : Int)) = false := by rw [hap.l1]; exact bne_self_eq_false _
    have q6 : ((s.mem.arrays.length : Int) != (m.arrays.length : Int)) = false := by rw [hap.l2]; exact bne_self_eq_false _
    (apply RL.callIs; exact kEv; exact inferInstance; exact kEvl; exact (outputs_spec w _ _ r.out s.out hrO hsO hol); exact rfl)
    rw [q1]
    refine kAutoB ?_
    rw [q2]
    refine kAutoB ?_
    rw [q3]
    refine kAutoB ?_
    rw [q4]
    refine kAutoB ?_
    rw [q5]
    refine kAutoB ?_
    rw [q6]
    refine kAutoB ?_
    refine CJ.loop (σ := Nat) (fun i => i ≤ m.arrays.length) (fun i => [(129, .int .i64 (i : Int)), (128, .int .i64 m.arrays.length), (17, .pointer (some ⟨b17, 0, none⟩)), (16, .pointer (some ⟨b16, 0, none⟩)), (11, .pointer (some ⟨b11, 0, none⟩)), (7, .pointer (some ⟨b7, 0, none⟩)), (1, .int .i64 (tn : Int))])
      (fun _ => []) (fun i => m.arrays.length - i) 0 (Nat.zero_le _) (by exact kEsub) (Gives.nil _) ?_
    intro i hi
    refine kAutoB ?_
    cases hlt : decide ((i : Int) < (m.arrays.length : Int))
    case false =>
      refine kAutoB ?_
      (apply RL.callIs; exact kEv; exact inferInstance; exact kEvl; exact (lists_spec w _ _ r.mem.shared s.mem.shared hrM hsM hsz.1.shared); exact rfl)
      rw [decide_eq_true hap.shared.symm]
      refine kAutoB ?_
      exact XJ.ret1B mm sa rfl rfl (by (repeat (first | exact Gives.refl _ | apply Gives.drop | apply Gives.skipApp))) ⟨rfl, rfl⟩
    have hlt' : i < m.arrays.length := by have := of_decide_eq_true hlt; omega
    obtain ⟨ba, oa, ua, rfl, hba, hma⟩ := hatr i (by rw [hap.l1]; exact hlt')
    obtain ⟨bz, oz, uz, rfl, hbz, hmz⟩ := hats i (by rw [hap.l2]; exact hlt')
    have hML := hsz.1.each _ (List.getElem_mem (show i < r.mem.arrays.length by rw [hap.l1]; exact hlt'))
    have hi1 : i < r.mem.arrays.length := by rw [hap.l1]; exact hlt'
    have hi2 : i < s.mem.arrays.length := by rw [hap.l2]; exact hlt'
    refine kAutoB ?_
    cases hit : ((i : Int) == (tn : Int))
    case true =>
      have hin' : i = tn := by have := eq_of_beq hit; omega
      have hz1 : decide (r.mem.arrays[i]'hi1 = s.mem.arrays[i]'hi2) = true := by
        have := hap.at_
        rw [← hin', List.getElem?_eq_getElem hi1, List.getElem?_eq_getElem hi2] at this
        exact decide_eq_true (Option.some.inj this)
      refine kAutoB ?_
      (refine CJ.draws mixed 14 [] (by exact kGives) (dom_of (by kernel_rfl)) ?_)
      ((first | refine kAjB 0 ?_ | refine kAjS 0 ?_); (first | refine kAjB 1 ?_ | refine kAjS 1 ?_); (first | refine kAjB 2 ?_ | refine kAjS 2 ?_); (first | refine kAjB 3 ?_ | refine kAjS 3 ?_))
      (apply AJ.pur (i := 4); exact rfl; exact rfl; exact rfl; exact rfl; exact rfl; exact rfl; exact rfl; exact rfl; exact rfl; (apply OpP.indexAddr; exact kEv; exact kEv; exact hi1))
      ((first | refine kAjB 5 ?_ | refine kAjS 5 ?_); (first | refine kAjB 6 ?_ | refine kAjS 6 ?_); (first | refine kAjB 7 ?_ | refine kAjS 7 ?_); (first | refine kAjB 8 ?_ | refine kAjS 8 ?_); (first | refine kAjB 9 ?_ | refine kAjS 9 ?_))
      (apply AJ.pur (i := 10); exact rfl; exact rfl; exact rfl; exact rfl; exact rfl; exact rfl; exact rfl; exact rfl; exact rfl; (apply OpP.indexAddr; exact kEv; exact kEv; exact hi2))
      ((first | refine kAjB 11 ?_ | refine kAjS 11 ?_))
      (refine AJ.loud1 (i := 12) (by kernel_rfl) (by kernel_rfl) rfl (by kernel_rfl) (by kernel_rfl) rfl rfl rfl rfl rfl rfl (OpS.call (by exact kEv) inferInstance (by exact kEvl) (Takes.nil _) (lists_spec w _ _ _ _ hma hmz hML)) ?_ ?_)
      rotate_left
      · rintro _ _ ⟨_, h, _⟩; exact h.elim
      rintro _ _ ⟨N, ⟨rfl, rfl⟩, rfl⟩
      refine ⟨by exact kGives, ?_⟩
      rw [hz1]
      ((first | refine kAjB 13 ?_ | refine kAjS 13 ?_))
      (refine AJ.done (by kernel_rfl) (by kernel_rfl) rfl (by kernel_rfl) ?_)
      refine kAutoB ?_
      rw [i64_up i (by omega)]
      exact XJ.round (i + 1) (by omega) (by omega) (by exact kEsub) (Gives.nil _)
    have hne : i ≠ tn := by
      intro e
      rw [e, beq_self_eq_true] at hit
      cases hit
    obtain ⟨bm, om, um, rfl, hbm, hmm⟩ := hatm i hlt'
    obtain ⟨bo, oo, uo, rfl, hbo, hmo⟩ := hato i (by simp only [otherM, partO_len]; exact hlt')
    have hi3 : i < (otherM m tn d).arrays.length := by simp only [otherM, partO_len]; exact hlt'
    have hz1 : decide (r.mem.arrays[i]'hi1 = m.arrays[i]) = true := by
      have := hap.r i hne
      rw [List.getElem?_eq_getElem hi1, List.getElem?_eq_getElem hlt'] at this
      exact decide_eq_true (Option.some.inj this)
    have hz2 : decide (s.mem.arrays[i]'hi2 = (otherM m tn d).arrays[i]'hi3) = true := by
      have := hap.s i hne
      rw [List.getElem?_eq_getElem hi2, List.getElem?_eq_getElem hi3] at this
      exact decide_eq_true (Option.some.inj this)
    have hML2 : MatL (s.mem.arrays[i]'hi2) := by
      have := of_decide_eq_true hz2
      rw [this]
      have e := partO_get m.arrays tn d m.arrays.length i
      have e3 : (otherM m tn d).arrays[i]? = some ((otherM m tn d).arrays[i]'hi3) := List.getElem?_eq_getElem hi3
      have e4 : some ((otherM m tn d).arrays[i]'hi3) = Option.map (fun x => if i < m.arrays.length ∧ i ≠ tn then addTo d x else x) m.arrays[i]? := e3.symm.trans e
      rw [List.getElem?_eq_getElem hlt'] at e4
      simp only [Option.map_some, Option.some.injEq, hlt', ne_eq, hne, not_false_eq_true, and_self, if_true] at e4
      rw [e4]
      have hE := hL.each _ (List.getElem_mem hlt')
      refine ⟨by simpa [addTo] using hE.1, ?_⟩
      intro l hl
      obtain ⟨y, hy, rfl⟩ := List.mem_map.1 hl
      simpa using hE.2 y hy
    refine kAutoB ?_
    (refine CJ.draws mixed 28 [] (by exact kGives) (dom_of (by kernel_rfl)) ?_)
    ((first | refine kAjB 0 ?_ | refine kAjS 0 ?_); (first | refine kAjB 1 ?_ | refine kAjS 1 ?_); (first | refine kAjB 2 ?_ | refine kAjS 2 ?_); (first | refine kAjB 3 ?_ | refine kAjS 3 ?_))
    (apply AJ.pur (i := 4); exact rfl; exact rfl; exact rfl; exact rfl; exact rfl; exact rfl; exact rfl; exact rfl; exact rfl; (apply OpP.indexAddr; exact kEv; exact kEv; exact hi1))
    ((first | refine kAjB 5 ?_ | refine kAjS 5 ?_); (first | refine kAjB 6 ?_ | refine kAjS 6 ?_); (first | refine kAjB 7 ?_ | refine kAjS 7 ?_); (first | refine kAjB 8 ?_ | refine kAjS 8 ?_))
    (apply AJ.pur (i := 9); exact rfl; exact rfl; exact rfl; exact rfl; exact rfl; exact rfl; exact rfl; exact rfl; exact rfl; (apply OpP.indexAddr; exact kEv; exact kEv; exact hlt'))
    ((first | refine kAjB 10 ?_ | refine kAjS 10 ?_))
    (refine AJ.loud1 (i := 11) (by kernel_rfl) (by kernel_rfl) rfl (by kernel_rfl) (by kernel_rfl) rfl rfl rfl rfl rfl rfl (OpS.call (by exact kEv) inferInstance (by exact kEvl) (Takes.nil _) (lists_spec w _ _ _ _ hma hmm hML)) ?_ ?_)
    rotate_left
    · rintro _ _ ⟨_, h, _⟩; exact h.elim
    rintro _ _ ⟨N, ⟨rfl, rfl⟩, rfl⟩
    refine ⟨by exact kGives, ?_⟩
    rw [hz1]
    ((first | refine kAjB 12 ?_ | refine kAjS 12 ?_); (first | refine kAjB 13 ?_ | refine kAjS 13 ?_); (first | refine kAjB 14 ?_ | refine kAjS 14 ?_); (first | refine kAjB 15 ?_ | refine kAjS 15 ?_); (first | refine kAjB 16 ?_ | refine kAjS 16 ?_); (first | refine kAjB 17 ?_ | refine kAjS 17 ?_))
    (apply AJ.pur (i := 18); exact rfl; exact rfl; exact rfl; exact rfl; exact rfl; exact rfl; exact rfl; exact rfl; exact rfl; (apply OpP.indexAddr; exact kEv; exact kEv; exact hi2))
    ((first | refine kAjB 19 ?_ | refine kAjS 19 ?_); (first | refine kAjB 20 ?_ | refine kAjS 20 ?_); (first | refine kAjB 21 ?_ | refine kAjS 21 ?_); (first | refine kAjB 22 ?_ | refine kAjS 22 ?_))
    (apply AJ.pur (i := 23); exact rfl; exact rfl; exact rfl; exact rfl; exact rfl; exact rfl; exact rfl; exact rfl; exact rfl; (apply OpP.indexAddr; exact kEv; exact kEv; exact hlt'))
    ((first | refine kAjB 24 ?_ | refine kAjS 24 ?_))
    refine AJ.one (kLoud 25 rfl (OpS.call (by exact kEv) inferInstance (by exact kEvl) (Takes.nil _) (lists_spec w _ _ _ _ hmz hmo hML2)) (by rintro _ _ ⟨_, h, _⟩; exact h.elim) ?_)
    rintro _ _ ⟨N, ⟨rfl, rfl⟩, rfl⟩
    refine ⟨by exact kGives, ?_⟩
    rw [hz2]
    ((first | refine kAjB 26 ?_ | refine kAjS 26 ?_); (first | refine kAjB 27 ?_ | refine kAjS 27 ?_))
    (refine AJ.done (by kernel_rfl) (by kernel_rfl) rfl (by kernel_rfl) ?_)
    refine kAutoB ?_
    rw [i64_up i (by omega)]
    exact XJ.round (i + 1) (by omega) (by omega) (by exact kEsub) (Gives.nil _)
  have hlt' : i < m.arrays.length := by have := of_decide_eq_true hlt; omega
  refine kAutoB ?_
  cases hit : ((i : Int) == (tn : Int))
  case true =>
    have hin' : i = tn := by have := eq_of_beq hit; omega
    subst hin'
    refine kAutoB ?_
    rw [i64_up i (by omega)]
    refine XJ.round (i + 1) (by omega) (by omega) (by exact kEsub) ?_
    rw [partO_own]
    exact kGives
  have hne : i ≠ tn := by
    intro e
    rw [e, beq_self_eq_true] at hit
    cases hit
  have hvi : vs[i]? = some (vs[i]'(by rw [hLs.l1]; exact hlt')) := by simp [hLs.l1, hlt']
  have hui : uss[i]? = some (uss[i]'(by rw [hLs.l2]; exact hlt')) := by simp [hLs.l2, hlt']
  have hqi := partO_at m.arrays (t := tn) d hlt'
  have hul := hLs.each i _ m.arrays[i] hui (by simp [hlt'])
  have hset := partO_set m.arrays d hlt' hne
  obtain ⟨hq1, hq2⟩ := hs.each _ (List.getElem_mem hlt')
  generalize vs[i]'(by rw [hLs.l1]; exact hlt') = vi at hvi
  generalize uss[i]'(by rw [hLs.l2]; exact hlt') = ui at hui hul
  generalize m.arrays[i] = qi at *
  refine CJ.gives (Takes.gives (Takes.there1 (Takes.there1 (Takes.there1 (Takes.there1 (Takes.there1 (cubM_takes hvi hui hqi _)))))) (Gives.refl _)) ?_
  generalize hRR : (row 39 1 (.slice As m.shared.length cs') m.shared.length us :: rcel b7 29 [.slice A3 m.arrays.length c3, .slice A4 m.shared.length c4] :: rcel b5 25 [.slice A1 p.shared.length c1, .slice A2 p.tasks.length c2] :: (cubM (vs.eraseIdx i) (uss.eraseIdx i) ((partO m.arrays tn d i).eraseIdx i) ++ (innerM us m.shared ++ F))) = R
  refine CJ.gives (M' := cel b11 29 [.slice Av m.arrays.length cv, .slice As m.shared.length cs'] :: row 27 1 (.slice Av m.arrays.length cv) m.arrays.length vs :: row 39 1 vi qi.length ui :: (innerM ui (partI qi d 0) ++ R)) (by
    rw [← hRR, partI_zero]
    exact Gives.cons (Takes.appR (matM vi ui qi) (Takes.here _ _)) (Gives.cons (Takes.appR (matM vi ui qi) (Takes.here _ _)) (by unfold matM; exact Gives.refl _))) ?_
  refine CJ.factS (p := (∃ b c, Value.slice Av m.arrays.length cv = .slice (some ⟨b, 0, none⟩) m.arrays.length c) ∧ ∃ A c, vi = .slice A qi.length c) (fun w h mm sa => ⟨row_ptr (Takes.there (Takes.here _ _)) mm (by omega), row_shape mm.tail.tail⟩) ?_
  rintro ⟨⟨bA, cA, eA⟩, Ai, ci, rfl⟩
  simp only [Value.slice.injEq] at eA
  obtain ⟨rfl, -, -⟩ := eA
  refine kAutoB ?_
  apply RL.pur; (apply OpP.indexAddr; exact kEv; exact kEv; exact hlt'); exact rfl
  apply RL.pur; (apply OpP.load; exact kEv; exact row_at (Takes.there (Takes.here _ _)) hvi); exact rfl
  refine kAutoB ?_
  refine CJ.loop (σ := Nat) (fun j => j ≤ qi.length) (fun j => [(50, .int .i64 (j : Int)), (49, .int .i64 qi.length), (48, .slice Ai qi.length ci), (38, .int .i64 (i : Int)), (37, .int .i64 m.arrays.length), (11, .pointer (some ⟨b11, 0, none⟩)), (7, .pointer (some ⟨b7, 0, none⟩)), (5, .pointer (some ⟨b5, 0, none⟩)), (4, .int .i32 d), (3, inV), (1, .int .i64 (tn : Int))])
    (fun j => cel b11 29 [.slice (some ⟨bA, 0, none⟩) m.arrays.length cv, .slice As m.shared.length cs'] :: row 27 1 (.slice (some ⟨bA, 0, none⟩) m.arrays.length cv) m.arrays.length vs :: row 39 1 (.slice Ai qi.length ci) qi.length ui :: (innerM ui (partI qi d j) ++ R))
    (fun j => qi.length - j) 0 (Nat.zero_le _) (by exact kEsub) (by exact kGives) ?_
  intro j hj
  refine kAutoB ?_
  cases hjt : decide ((j : Int) < (qi.length : Int))
  case false =>
    have hjg : j = qi.length := by have := of_decide_eq_false hjt; omega
    subst hjg
    refine kAutoB ?_
    rw [i64_up i (by omega)]
    refine XJ.round (i + 1) (by omega) (by omega) (by exact kEsub) ?_
    have hlen : qi.length = (addTo d qi).length := by simp [addTo]
    rw [partI_all, hset, ← hRR, row_of_len (E := 39) (xs := ui) hlen]
    refine Gives.cons (Takes.here _ _) (Gives.cons (Takes.here _ _) (Gives.cons (Takes.there (Takes.appR _ (Takes.here _ _))) (Gives.cons (Takes.there (Takes.appR _ (Takes.here _ _))) (Gives.cons (Takes.there (Takes.appR _ (Takes.here _ _))) ?_))))
    have := cubM_put (m := addTo d qi) hvi hui (q := partO m.arrays tn d i) (by rw [partO_len]; exact hlt') (innerM us m.shared ++ F)
    unfold matM at this
    rw [← hlen] at this ⊢
    exact this
  have hjt' : j < qi.length := by have := of_decide_eq_true hjt; omega
  have huj : ui[j]? = some (ui[j]'(by omega)) := by simp [show j < ui.length by omega]
  have hlj := partI_at qi d hjt'
  have hset2 := partI_set qi d hjt'
  have hl70 := hq2 _ (List.getElem_mem hjt')
  generalize ui[j]'(by omega) = uj at huj
  generalize qi[j] = lj at *
  refine CJ.gives (Takes.gives (Takes.there (Takes.there (Takes.there (innerM_take huj hlj R)))) (Gives.refl _)) ?_
  refine CJ.factS (p := (∃ b c, Value.slice Ai qi.length ci = .slice (some ⟨b, 0, none⟩) qi.length c) ∧ ∃ A c, uj = .slice A lj.length c) (fun w h mm sa => ⟨row_ptr (Takes.there (Takes.there (Takes.there (Takes.here _ _)))) mm (by omega), row_slice (Takes.here _ _) mm⟩) ?_
  rintro ⟨⟨bI, cI, eI⟩, Aj, cj, rfl⟩
  simp only [Value.slice.injEq] at eI
  obtain ⟨rfl, -, -⟩ := eI
  refine kAutoB ?_
  apply RL.pur; (apply OpP.indexAddr; exact kEv; exact kEv; exact hjt'); exact rfl
  apply RL.pur; (apply OpP.load; exact kEv; exact row_at (Takes.there (Takes.there (Takes.there (Takes.here _ _)))) huj); exact rfl
  refine kAutoB ?_
  generalize hKK : (cel b11 29 [.slice (some ⟨bA, 0, none⟩) m.arrays.length cv, .slice As m.shared.length cs'] :: row 27 1 (.slice (some ⟨bA, 0, none⟩) m.arrays.length cv) m.arrays.length vs :: row 39 1 (.slice (some ⟨bI, 0, none⟩) qi.length ci) qi.length ui :: (innerM (ui.eraseIdx j) ((partI qi d j).eraseIdx j) ++ R)) = K
  refine CJ.loop (σ := Nat) (fun k => k ≤ lj.length) (fun k => [(56, .int .i64 (k : Int)), (55, .int .i64 lj.length), (54, .slice Aj lj.length cj), (14, .slice Aj lj.length cj), (50, .int .i64 (j : Int)), (49, .int .i64 qi.length), (48, .slice (some ⟨bI, 0, none⟩) qi.length ci), (38, .int .i64 (i : Int)), (37, .int .i64 m.arrays.length), (11, .pointer (some ⟨b11, 0, none⟩)), (7, .pointer (some ⟨b7, 0, none⟩)), (5, .pointer (some ⟨b5, 0, none⟩)), (4, .int .i32 d), (3, inV), (1, .int .i64 (tn : Int))])
    (fun k => row 21 1 (.slice Aj lj.length cj) lj.length ((partC lj d k).map intV) :: K)
    (fun k => lj.length - k) 0 (Nat.zero_le _) (by exact kEsub) (by rw [partC_zero]; exact Gives.refl _) ?_
  intro k hk
  refine kAutoB ?_
  cases hkt : decide ((k : Int) < (lj.length : Int))
  case false =>
    have hkg : k = lj.length := by have := of_decide_eq_false hkt; omega
    subst hkg
    refine kAutoB ?_
    rw [i64_up j (by omega)]
    refine XJ.round (j + 1) (by omega) (by omega) (by exact kEsub) ?_
    rw [partC_all, hset2, ← hKK]
    refine Gives.cons (Takes.there (Takes.here _ _)) (Gives.cons (Takes.there (Takes.here _ _)) (Gives.cons (Takes.there (Takes.here _ _)) ?_))
    have := innerM_put (lj.map fun x => IntKind.i32.wrap (x + d)) huj (cs := partI qi d j) (by rw [partI_len]; exact hjt') R
    unfold rowI at this
    rw [List.length_map] at this
    exact this
  have hkt' : k < lj.length := by have := of_decide_eq_true hkt; omega
  refine CJ.factS (p := ∃ b c, Value.slice Aj lj.length cj = .slice (some ⟨b, 0, none⟩) lj.length c) (fun w h mm sa => row_ptr (Takes.here _ _) mm (by omega)) ?_
  rintro ⟨bJ, cJ, eJ⟩
  simp only [Value.slice.injEq] at eJ
  obtain ⟨rfl, -, -⟩ := eJ
  refine kAutoB ?_
  apply RL.pur; (apply OpP.indexAddr; exact kEv; exact kEv; exact hkt'); exact rfl
  apply RL.pur; (apply OpP.load; exact kEv; exact row_at (Takes.here _ _) (partC_at lj d hkt')); exact rfl
  refine kAutoB ?_
  apply RL.pur; (apply OpP.indexAddr; exact kEv; exact kEv; exact hkt'); exact rfl
  refine RL.rowSet (i := 0 + k * 1) kEv kEv rfl rfl (Takes.here _ _) (by omega) ?_
  rw [show 0 + k * 1 = k by omega, ← partC_set lj d hkt']
  refine kAutoB ?_
  rw [i64_up k (by omega)]
  exact XJ.round (k + 1) (by omega) (by omega) (by exact kEsub) (by exact kGives)
end Go.Proofs.YtgmapenlgammfaaDoor

/- InterpApart: the card. -/
namespace Go.Proofs.YtgmapenlgammfaaDoor.interpApart
open Go Go.ChangeShapes Go.WideShapes Go.ChangeAt Go.RowKit
theorem contract (H : Type) (enc : TypeId × Value → H) (W : World) (base : Nat) (args : Array Value) (ds gs : List (DataW H)) (before : List MemPlace)
    (hval : ∀ (j : Nat) t v, Tryd.f4.params[j]? = some t → args[j]? = some v → Value.okWide Tryd.prog W .any base t v)
    (hW : DataW.Whole enc Tryd.prog Tryd.f4.params.toList Rows.interpApartSpec.vars false W args.toList ds gs before) (hL : laidMetH Tryd.prog Rows.interpApartRow.laid W) :
    Calls Tryd.prog 4 args W fun e W' => ∃ v, e = .returned v ∧ Rows.interpApartSpec.post enc Tryd.prog Tryd.f4 false true false false W args v W' := by
  have hW' := hW
  obtain ⟨p, q, hA, hV, rfl, hfz, hnd⟩ := hW
  rw [Tryd.params4] at hA hval
  obtain ⟨v0, vs0, d0, ds0, p'0, q0, hargs, rfl, rfl, h0, r0⟩ := trodAll_cons hA
  obtain ⟨v1, vs1, d1, ds1, p'1, q1, rfl, rfl, rfl, h1, r1⟩ := trodAll_cons r0
  obtain ⟨v2, vs2, d2, ds2, p'2, q2, rfl, rfl, rfl, h2, r2⟩ := trodAll_cons r1
  obtain ⟨v3, vs3, d3, ds3, p'3, q3, rfl, rfl, rfl, h3, r3⟩ := trodAll_cons r2
  obtain ⟨v4, vs4, d4, ds4, p'4, q4, rfl, rfl, rfl, h4, r4⟩ := trodAll_cons r3
  obtain ⟨rfl, rfl, rfl⟩ := trodAll_nil r4
  obtain rfl : args = #[v0, v1, v2, v3, v4] := by cases args; simp_all
  obtain ⟨cs0, p0, rfl, hR0, hS0⟩ := arg_program (hval 0 _ v0 rfl rfl) h0
  obtain ⟨x1, rfl, rfl, rfl, hw1⟩ := open_int Tryd.underlying3 (hval 1 _ v1 rfl rfl) h1
  have hb1 := bounds_i64 hw1
  obtain ⟨cs2, m2, rfl, hM2, h322, hL2⟩ := arg_memory (hval 2 _ v2 rfl rfl) h2
  obtain ⟨l3, hl3, hi3, hn3⟩ := arg_ints (hval 3 _ v3 rfl rfl) h3
  obtain ⟨x4, rfl, rfl, rfl, hw4⟩ := open_int Tryd.underlying21 (hval 4 _ v4 rfl rfl) h4
  have hb4 := bounds_i32 hw4
  refine law_contract rfl (by kernel_rfl) (by rw [Tryd.params4]; decide +kernel) ?_ hW' (apart_spec W (tab_of hL) p0 cs0 hR0 m2 cs2 hM2 h322 hL2 v3 l3 hl3 hi3 x1 x4).walk
  intro ds hl
  rw [Tryd.params4] at hl
  match ds, hl with
  | [d1, d2, d3, d4, d5], _ => rfl
/-- The witness's arguments. -/
def wargs : Array Value := #[.agg #[.slice none 0 0, .slice none 0 0], .int .i64 0, .agg #[.slice none 0 0, .slice none 0 0], .slice none 0 0, .int .i32 0]
theorem reads (os : Os) {H : Type} (enc : TypeId × Value → H) : ∃ places, DataW.whole enc Tryd.prog ((World.laidAll Tryd.prog os Rows.interpApartRow.laid).forCall (fun _ _ => 0) ⟨#[], wargs, []⟩).memory Tryd.f4.params.toList Rows.interpApartSpec.vars false wargs.toList 8 = some ([.agg [.nil, .nil], .lit (.int .i64 0), .agg [.nil, .nil], .nil, .lit (.int .i32 0)], [], places) :=
  ⟨[], by kernel_rfl⟩
theorem lifted (os : Os) (started : os.Started) (H : Type) (enc : TypeId × Value → H) (F : Stop.Interp) :
    ReturnsInHanded {} Tryd.checked os 4 .any ((OpenSpec.ofChange Rows.interpApartSpec).preRow enc Tryd.prog Tryd.f4 Rows.interpApartRow.domain false Rows.interpApartRow.laid) (((OpenSpec.ofChange Rows.interpApartSpec).at F).post enc Tryd.prog Tryd.f4 false true false false) := by
  obtain ⟨places, hx⟩ := reads os enc
  refine returnsInHanded_of_row (C := Tryd.checked) (s := OpenSpec.ofChange Rows.interpApartSpec) noKnob started (by kernel_rfl) Tryd.func4
    (witness wargs (by kernel_rfl) (OpenSpec.preRow_of_cond 8 hx (by kernel_rfl) (fun k hk => by cases hk) (by kernel_rfl) (laid_met wargs))) ?_
  intro W base args ds gs before hval hW _ _ _ hL _ _
  exact contract H enc W base args ds gs before hval hW hL
theorem said : Rows.InterpApartSaid :=
  OpenClaim.holds_of_cond 4 Tryd.f4 rfl rfl rfl rfl rfl rfl rfl ⟨rfl, rfl, rfl, rfl, rfl⟩ rfl rfl rfl rfl rfl (by kernel_rfl) Tryd.func4 (by kernel_rfl)
    (of_decide_eq_true (by kernel_rfl)) (by unfold Func.isWrapper; first | (rw [if_pos (by decide +kernel)]; kernel_rfl) | (rw [if_neg (by decide +kernel)]; exact ⟨rfl, rfl⟩))
    (fun os started H enc _ F => by rw [OpenClaim.pre_eq_preRow]; exact lifted os started H enc F)
theorem plain (f : FuncId) (fn : Func) (hf : Tryd.pinned.checked.prog.funcNamed "ontime/ontimelaw16.InterpApart" = some f) (hfn : Tryd.pinned.checked.prog.funcs[f]? = some fn) :
    true = Tryd.pinned.checked.prog.looks [] ∧ ∀ (j : Nat) t, fn.params[j]? = some t → Tryd.pinned.checked.prog.wantsStandIn t = false := by
  obtain rfl : f = 4 := Option.some.inj ((show Tryd.prog.funcNamed "ontime/ontimelaw16.InterpApart" = some 4 by kernel_rfl).symm.trans hf) |>.symm
  obtain rfl : fn = Tryd.f4 := (Option.some.inj (Tryd.func4.symm.trans hfn)).symm
  refine ⟨by kernel_rfl, fun j t ht => ?_⟩
  have h : (Tryd.f4.params.toList.all fun t => !Tryd.prog.wantsStandIn t) = true := by kernel_rfl
  have h' : (!Tryd.prog.wantsStandIn t) = true := List.all_eq_true.1 h t (by simpa using Array.mem_of_getElem? ht)
  exact (show Tryd.prog.wantsStandIn t = false by simpa using h')
/-- ████ THE CARD ████ -/
theorem card : Rows.InterpApartCardSaid :=
  Claim7.holds_tied_plain_at .later [] _ _ _ _ said (fun _ h => by cases h) (by kernel_rfl) (fun _ h => by cases h) interpApart_row_tie rfl ⟨rfl, rfl⟩ (by kernel_rfl) rfl plain (by kernel_rfl)
end Go.Proofs.YtgmapenlgammfaaDoor.interpApart
