/- What is owned, handed on as the base of a call that only reads; a store into a list that is owned; a new list. -/
import Derived.Test.YtgmapenlgammfaaGreatDoorMem
set_option linter.all false
namespace Go.Proofs.YtgmapenlgammfaaGreatDoor
open Go Go.RowKit
section
attribute [local semireducible] Takes Gives Ev XJ CJ RL Spec pt ro OpP OpS HasAt HasMap mp rmp row rrow Base
theorem Spec.rebaseE {P : Program} {w0 : World} {f : FuncId} {args : Array Value} {M : List HProp} {r : Except (List PanicEntry) Value}
    (k : ∀ w h, star M h → Sat w0 w h → Spec P w f args [] (IsE r)) : Spec P w0 f args M (Ret (fun v M' => r = .ok v ∧ M' = M) (fun c M' => r = .error c ∧ M' = M)) :=
  (Spec.rebaseR k).mono fun e M' h => by
    cases e with
    | returned v => obtain ⟨N, ⟨h1, h2⟩, h3⟩ := h; subst h2; exact ⟨h1, h3⟩
    | panicked c => obtain ⟨N, ⟨h1, h2⟩, h3⟩ := h; subst h2; exact ⟨h1, h3⟩
    | outgrown => exact h.elim
theorem mp_mapB {w0 w : World} {h : Frag} {M M' : List HProp} {κ : Type} [DecidableEq κ] {enc : κ → Value} {r : Nat} {m : κ → Option Value} (t : Takes M [mp enc r m] M') (mm : star M h) (s : Sat w0 w h) : MapB w enc r m := by
  obtain ⟨h1, h2, l1, l2, dd, ⟨es, clk, a, mi⟩, m2⟩ := t h mm
  exact ⟨es, clk, (s.own r _ (l1 r _ a)).2, mi⟩
theorem row_rows {w0 w : World} {h : Frag} {M M' : List HProp} {E n c : Nat} {A : Option Addr} {xs : List Value} (t : Takes M [row E 1 (.slice A n c) n xs] M') (mm : star M h) (s : Sat w0 w h) : n ≤ c ∧ RowsB w 1 A (xs.map fun u => [u]) := by
  have hc := row_cap t mm
  refine ⟨hc, ?_⟩
  have tt := t h mm
  obtain ⟨h1, h2, l1, l2, dd, ⟨e1, e2, e3⟩, m2⟩ := tt
  intro i r e
  rw [List.getElem?_map] at e
  obtain ⟨v, hv, rfl⟩ := Option.map_eq_some_iff.1 e
  rcases e3 with ⟨e, e'⟩ | ⟨g, cap, cur, e, a, _, _, hc, ht⟩
  · subst e'
    have : xs = [] := List.eq_nil_of_length_eq_zero (by simpa using e1)
    subst this
    simp at hv
  · simp only [Value.slice.injEq, true_and] at e
    obtain ⟨rfl, rfl⟩ := e
    refine ⟨g, 0, rfl, rfl, ?_⟩
    have hb := (s.own _ _ (l1 _ _ a)).2
    intro j u hu
    rcases j with _ | j
    · simp at hu
      subst hu
      have hi : i < n * 1 := by
        rcases Nat.lt_or_ge i (n * 1) with x | x
        · exact x
        · rw [List.getElem?_eq_none (by omega)] at hv; cases hv
      rw [← ht, List.getElem?_take_of_lt hi] at hv
      have := HasAt.heap (o := 0) (vs := cur) hb atAll i v hv
      simpa using this
    · simp at hu
theorem row_len {E n : Nat} {v : Value} {xs : List Value} {M M' : List HProp} {h : Frag} (t : Takes M [row E 1 v n xs] M') (mm : star M h) : xs.length = n := by
  obtain ⟨h1, h2, l1, l2, dd, ⟨e1, e2, e3⟩, m2⟩ := t h mm
  simpa using e1
section
variable {P : Program} {w0 : World} {L : Env} {M : List HProp} {d : Option Tmp} {T : TypeId} {p : String} {af : Array Edge} {g : Option (Nat × Bool)}
/-- A store into a list of one's own. -/
theorem OpS.rowSet {t : TypeId} {x y : Operand} {b i n c : Nat} {E : TypeId} {xs : List Value} {v : Value} {M' : List HProp} [k : Sca P t] (hx : Ev L x (.pointer (some ⟨b, i, none⟩))) (hy : Ev L y v) (hv : v.cells = #[v]) (h1 : v.oneCell' = true) (hm : Takes M [row E 1 (.slice (some ⟨b, 0, none⟩) n c) n xs] M') (ho : i < n) :
    OpS P w0 L M ⟨d, .store t x y, T, p, af, g⟩ (fun _ M'' => M'' = row E 1 (.slice (some ⟨b, 0, none⟩) n c) n (xs.set i v) :: M') noP :=
  fun q a w h s m sa => by
    obtain ⟨f1, f2, l1, l2, dd, ⟨e1, e2, e3⟩, m2⟩ := hm h m
    rcases e3 with ⟨e, _⟩ | ⟨gg, cap, cur, e, ha, hc1, hc2, hc, ht⟩
    · cases e
    simp only [Value.slice.injEq, Option.some.injEq, Addr.mk.injEq, and_true, true_and] at e
    obtain ⟨rfl, rfl⟩ := e
    have hlen : cur.length = c := by simpa using hc
    have hm' : star (cel b E cur :: M') h := ⟨f1, f2, l1, l2, dd, ha, m2⟩
    have hr := run_storeVar_at (P := P) (o := i) (k.sz w) (show v.cells = [v].toArray from hv) rfl (by simpa using h1) (sa.pt hm') (by simp; omega)
    obtain ⟨h', m', s'⟩ := sa.setRow (cs' := setSeg cur [v] i) hm'
    simp only [execOp, hx q a s, hy q a s, Instr.storeAt, Instr.sureAddr, Sem.run_bind, Sem.run_pure, Result.andThen_ok, hr, ResS]
    refine ⟨_, h', rfl, ?_, s'⟩
    obtain ⟨g1, g2, k1, k2, d2, hb, m3⟩ := m'
    have hseg : setSeg cur [v] i = cur.set i v := by
      unfold setSeg
      rw [List.set_eq_take_append_cons_drop, if_pos (by omega)]
      simp
    refine ⟨g1, g2, k1, k2, d2, ⟨by simpa using e1, ?_, .inr ⟨b, c, setSeg cur [v] i, rfl, hb, hc1, hc2, by rw [hseg]; simpa using hc, ?_⟩⟩, m3⟩
    · intro u hu
      rcases List.mem_or_eq_of_mem_set hu with hu | rfl
      · exact e2 u hu
      · exact h1
    · rw [hseg, List.take_set, ht]
/-- A new list of zeros. -/
theorem OpS.makeRow {t : TypeId} {E sz bytes : Nat} {z : Value} {zc : List Value} {x y : Operand} {n : Nat} [k : AppT P t E sz bytes zc] (hx : Ev L x (.int .i64 (n : Int))) (hy : Ev L y (.int .i64 (n : Int))) (h1 : zc = [z]) (hz : z.oneCell' = true) (hs : sz = 1) (hb : bytes * n ≤ 281474976710656) (hn : n ≤ 1000000000) :
    OpS P w0 L M ⟨d, .makeSlice t x y, T, p, af, g⟩ (fun v N => ∃ b, v = .slice (some ⟨b, 0, none⟩) n n ∧ N = row E 1 v n (List.replicate n z) :: M) noP :=
  fun q a w h s m sa => by
    obtain ⟨i, zz, ht, hi, hzz, hsz, hby, hzc, hzl, h0⟩ := k.ex
    subst hs h1
    have hr := run_make (P := P) w t E i zz ht hi hzz .i64 .i64 (n : Int) (n : Int) (by omega) (Int.le_refl _) (by
      rw [hby]
      have : ((bytes * n : Nat) : Int) ≤ 281474976710656 := by omega
      rwa [Int.natCast_mul] at this) (by omega)
    simp only [Int.toNat_natCast] at hr
    have hcells : madeCells zz.cells (n * i.size) = (List.replicate n z).toArray := by
      rw [hzc, hsz, Nat.mul_one]
      unfold madeCells
      apply Array.ext'
      simp only [Array.toList_map, Array.toList_range, List.size_toArray, List.length_singleton, Nat.mod_one]
      apply List.ext_getElem?
      intro j
      simp only [List.getElem?_map, List.getElem?_replicate, List.getElem?_range']
      by_cases hj : j < n
      · simp [hj, List.range_eq_range']
      · simp [hj, List.range_eq_range']
    rw [hcells] at hr
    obtain ⟨h', m', s'⟩ := sa.push m (.cells (List.replicate n z).toArray E (0, 0))
    simp only [execOp, hx q a s, hy q a s, Sem.run_bind, hr, Result.andThen_ok, Sem.run_pure, ResS]
    refine ⟨_, h', ⟨_, rfl, rfl⟩, ?_, s'⟩
    exact row_of_cel (by simp) (by intro u hu; rw [List.mem_replicate] at hu; rw [hu.2]; exact hz) (by simp only [maxLen]; omega) _ h' m'
end
end
theorem RL.rowSet {P : Program} {w0 : World} {n : Nat} {ops : Array Oper} {Q : Exit → Act → World → Prop} {L : Env} {M : List HProp} {l : List Oper} {T : TypeId} {p : String} {af : Array Edge}
    {t : TypeId} {x y : Operand} {b i m c : Nat} {E : TypeId} {xs : List Value} {v : Value} {M' : List HProp} [k : Sca P t] (hx : Ev L x (.pointer (some ⟨b, i, none⟩))) (hy : Ev L y v) (hv : v.cells = #[v]) (h1 : v.oneCell' = true) (hm : Takes M [row E 1 (.slice (some ⟨b, 0, none⟩) m c) m xs] M') (ho : i < m)
    (kk : RL P w0 n ops Q l L (row E 1 (.slice (some ⟨b, 0, none⟩) m c) m (xs.set i v) :: M')) : RL P w0 n ops Q (⟨none, .store t x y, T, p, af, none⟩ :: l) L M :=
  RL.s0 (OpS.rowSet hx hy hv h1 hm ho) (by rintro _ _ rfl; exact kk) (fun _ _ h => h.elim)
theorem RL.makeRow {P : Program} {w0 : World} {q : Nat} {ops : Array Oper} {Q : Exit → Act → World → Prop} {L : Env} {M : List HProp} {l : List Oper} {T : TypeId} {p : String} {af : Array Edge}
    {d : Nat} {t : TypeId} {E sz bytes : Nat} {z : Value} {zc : List Value} {x y : Operand} {n : Nat} [k : AppT P t E sz bytes zc] (hx : Ev L x (.int .i64 (n : Int))) (hy : Ev L y (.int .i64 (n : Int))) (h1 : zc = [z]) (hz : z.oneCell' = true) (hs : sz = 1) (hb : bytes * n ≤ 281474976710656) (hn : n ≤ 1000000000) (hd : Nat.blt d q = true)
    (kk : ∀ b, RL P w0 q ops Q l ((d, .slice (some ⟨b, 0, none⟩) n n) :: L) (row E 1 (.slice (some ⟨b, 0, none⟩) n n) n (List.replicate n z) :: M)) : RL P w0 q ops Q (⟨some d, .makeSlice t x y, T, p, af, none⟩ :: l) L M :=
  RL.s (OpS.makeRow hx hy h1 hz hs hb hn) hd (by rintro _ _ ⟨b, rfl, rfl⟩; exact kk b) (fun _ _ h => h.elim)
section
attribute [local semireducible] Takes Gives
theorem Takes.appR {A Z Z' : List HProp} (N : List HProp) (k : Takes Z A Z') : Takes (N ++ Z) A (N ++ Z') := fun h s => by
  have s1 : star (Z ++ N) h := star.perm List.perm_append_comm s
  obtain ⟨h1, h2, l1, l2, d, z, n⟩ := s1.split
  have := star.join l1 l2 d (k _ z) n
  refine star.perm ?_ this
  rw [List.append_assoc]
  exact List.Perm.append_left A List.perm_append_comm
theorem Takes.assoc {A X F : List HProp} : Takes (A ++ (X ++ F)) (A ++ X) F := fun h s => by rwa [List.append_assoc]
end
section
attribute [local semireducible] Gives
theorem Gives.front2 {J : List HProp} {a b : HProp} {F : List HProp} : Gives (J ++ (a :: b :: F)) (a :: b :: (J ++ F)) := fun h m => by
  refine star.perm ?_ m
  exact List.perm_middle.trans (List.perm_middle.cons _)
theorem Gives.front2' {J : List HProp} {a b : HProp} {F : List HProp} : Gives (a :: b :: (J ++ F)) (J ++ ([a, b] ++ F)) := fun h m => by
  refine star.perm ?_ m
  exact (List.perm_middle.trans (List.perm_middle.cons _)).symm
theorem Gives.front2r {J : List HProp} {a b : HProp} {F : List HProp} : Gives ((J ++ [a, b]) ++ F) (a :: b :: (J ++ F)) := fun h m => by
  rw [List.append_assoc] at m
  refine star.perm ?_ m
  exact List.perm_middle.trans (List.perm_middle.cons _)
theorem Gives.drop2 {a b : HProp} {M : List HProp} : Gives (a :: b :: M) M := Gives.drop (Gives.drop (Gives.refl _))
end
section
attribute [local semireducible] Takes
theorem Takes.two0 {a b : HProp} {A F : List HProp} : Takes (a :: b :: (A ++ F)) (A ++ []) (a :: b :: F) := by rw [List.append_nil]; exact Takes.there1 (Takes.there1 (Takes.app _ _))
theorem Takes.two' {a b : HProp} {A F : List HProp} : Takes (a :: b :: (A ++ F)) (A ++ [a, b]) F := fun h m => by
  rw [List.append_assoc]
  refine star.perm ?_ m
  exact (List.perm_middle.trans (List.perm_middle.cons _)).symm
theorem Takes.two {a b : HProp} {A F : List HProp} : Takes (a :: b :: (A ++ F)) A (a :: b :: F) := Takes.there1 (Takes.there1 (Takes.app _ _))
end
section
attribute [local semireducible] Gives
theorem Gives.swapApp {A B F : List HProp} : Gives (A ++ (B ++ F)) ((B ++ A) ++ F) := fun h m => by
  refine star.perm ?_ m
  rw [← List.append_assoc]
  exact List.Perm.append_right F List.perm_append_comm
end
end Go.Proofs.YtgmapenlgammfaaGreatDoor
