/- The machine's store: a value into a variable or an array's element. -/
import Derived.Test.YtgmapenlgammfaaGreatDoorStep
set_option linter.all false
namespace Go.Proofs.YtgmapenlgammfaaGreatDoor
open Go

theorem array_own (w0 : World) {J : JP} {E : JE} {s : JS} (A : Option Addr) (c : Nat) (name : ByteArray) :
    Spec Tryz.prog w0 100 #[.agg #[.map (some J.rv), .map (some J.ra)], .string name] (jobM J E s A c)
      (Ret (fun v N => (match arrV J E name with | none => Except.error (stopV 6) | some v => .ok v) = .ok v ∧ N = jobM J E s A c) (fun p N => (match arrV J E name with | none => Except.error (stopV 6) | some v => .ok v) = .error p ∧ N = jobM J E s A c)) :=
  Spec.rebaseE fun w h m sa => array_spec w J.rv J.ra (arrV J E) (rmp_mapB (M := jobM J E s A c) (by unfold jobM; exact kTake) m sa) name
theorem vars_set (s : JS) (nm : ByteArray) (v : Int) : upd (fun n => (s.vars n).map intV) nm (.int .i32 v) = fun n => ((setVar s nm v).vars n).map intV := by
  funext n
  unfold upd setVar updI
  by_cases h : n = nm
  · simp [h, intV]
  · simp [h]
theorem idx_nat {i : Int} {n : Nat} (hi : I32 i) (h : idxB i n = true) : IntKind.i64.wrap i = ((i.toNat : Nat) : Int) ∧ i.toNat < n := by
  have hw : IntKind.i64.wrap i = ((i.toNat : Nat) : Int) := by
    unfold I32 at hi
    unfold idxB at h
    simp at h
    simp only [IntKind.wrap, IntKind.signed, IntKind.bits]
    simp
    omega
  refine ⟨hw, ?_⟩
  unfold idxB at h
  simp only [Bool.and_eq_true, Bool.not_eq_true', decide_eq_false_iff_not] at h
  omega
theorem storeJ_var {E : JE} {num : Int} {nm : ByteArray} {kids : List Node} {early : Bool} {g : JS → JS × Except Int Int} {s : JS} : storeJ E (.mk 2 num nm kids) early g s = (match g s with | (s1, .error e) => (s1, some e) | (s1, .ok v) => (setVar s1 nm v, none)) := if_pos rfl
theorem storeJ_item {E : JE} {kd num : Int} {nm : ByteArray} {q : Node} {early : Bool} {g : JS → JS × Except Int Int} {s : JS} (h2 : ¬ kd = 2) : storeJ E (.mk kd num nm [q]) early g s = (match E.ix nm with
      | none => (s, some 6)
      | some a => match evJ E s q with
        | .error e => (s, some e)
        | .ok i =>
          if early then match g s with
            | (s1, .error e) => (s1, some e)
            | (s1, .ok v) => if idxB i (s.cells.getD a []).length then (setCell s1 a i v, none) else (s1, some 11)
          else if idxB i (s.cells.getD a []).length then match g s with
            | (s1, .error e) => (s1, some e)
            | (s1, .ok v) => (setCell s1 a i v, none)
          else (s, some 11)) := if_neg h2
theorem store_spec (w0 : World) {J : JP} {E : JE} {lens : List Nat} (k : JobF w0 J E lens) {s : JS} (o : OKJ E lens s) (A : Option Addr) (c : Nat) (X : List HProp)
    (place : Node) (pcs : List Value) (hR : NodeR w0 place pcs) (hsz : place.size < 4611686018427387904) (hp : place.kind = 2 ∨ place.kind = 3 ∧ ∃ a, place.kids = [a] ∧ isB a 1 = true)
    (early : Bool) (g : JS → JS × Except Int Int) (f : FuncId) (first cap : List Value) (hf : CallT Tryz.prog f) (hc1 : (g s).1.cells = s.cells)
    (hget : Spec Tryz.prog w0 f (first ++ [] ++ cap).toArray (jobM J E s A c ++ X) (GRes J E X (g s))) :
    Spec Tryz.prog w0 120 #[.pointer (some ⟨J.bm, 0, none⟩), .agg pcs.toArray, .bool early, .func (.func f) first.toArray cap.toArray] (jobM J E s A c ++ X) (SRes J E X (storeJ E place early g s)) := by
  obtain ⟨B, cp, rfl, hcap, hN⟩ := hR.kids
  obtain ⟨kd, num, nm, kids⟩ := place
  simp only [Node.kind, Node.num, Node.name, Node.kids] at *
  refine Spec.enter (args := [_, _, _, _]) Tryz.func120 rfl rfl rfl (fun F => ?_)
  refine kAutoB ?_
  (apply RL.boxR; exact kEv; exact rfl; intro b5)
  refine kAutoB ?_
  refine CJ.gives (M' := jobM J E s A c ++ (X ++ (rcel b5 50 [.int .u8 kd, .int .i64 num, .string nm, .slice B kids.length cp] :: F))) (by
    rw [List.append_assoc]
    unfold Gives
    intro h m
    refine star.perm ?_ m
    rw [← List.append_assoc, ← List.append_assoc]
    exact List.perm_middle.symm) ?_
  (refine CJ.cond (by exact kEv) (fun h2 => ?_) (fun h2 => ?_))
  · obtain rfl : kd = 2 := by simpa using h2
    rw [storeJ_var]
    generalize g s = r at *
    obtain ⟨s1, x⟩ := r
    simp only at hc1
    refine kAutoB ?_
    (refine CJ.draws mixed 9 [rcel b5 50 _, rcel J.bm 114 (machV J E)] (Gives.cons (Takes.appR _ (Takes.appR _ (Takes.here _ _))) (Gives.cons (Takes.here _ _) (Gives.nil _))) (dom_of (by kernel_rfl)) ?_)
    ((first | refine kAjB 0 ?_ | refine kAjS 0 ?_); (first | refine kAjB 1 ?_ | refine kAjS 1 ?_); (first | refine kAjB 2 ?_ | refine kAjS 2 ?_); (first | refine kAjB 3 ?_ | refine kAjS 3 ?_); (first | refine kAjB 4 ?_ | refine kAjS 4 ?_); (first | refine kAjB 5 ?_ | refine kAjS 5 ?_); (first | refine kAjB 6 ?_ | refine kAjS 6 ?_); (first | refine kAjB 7 ?_ | refine kAjS 7 ?_))
    (refine AJ.loud1 (i := 8) (by kernel_rfl) (by kernel_rfl) rfl (by kernel_rfl) (by kernel_rfl) rfl rfl rfl rfl rfl rfl (OpS.call (by exact kEv) hf (by exact kEvl) Takes.assoc hget) ?_ ?_)
    · rintro _ _ ⟨N', ⟨v, hv, rfl, A', c', rfl⟩, rfl⟩
      simp only at hv
      subst hv
      refine ⟨by (repeat (first | exact Gives.refl _ | exact Gives.nil _ | (apply Gives.cons; (focus ((first | ((repeat (first | exact Takes.here _ _ | apply Takes.there)); done) | (apply Takes.appR; exact kTake; done) | (apply Takes.appR; apply Takes.appR; exact kTake; done))))) | apply Gives.drop)), ?_⟩
      (refine AJ.tail (by kernel_rfl) (by kernel_rfl) rfl (by kernel_rfl) (by kernel_rfl) (by kernel_rfl) ?_)
      rw [List.append_assoc]
      (apply RL.mapUpdate; exact kEv; exact kEv; exact kEv; exact kTake)
      refine kAutoB ?_
      rw [vars_set]
      refine XJ.ret0 rfl (jobM J E (setVar s1 nm v) A' c' ++ X) ?_ ⟨rfl, rfl, A', c', rfl⟩
      rw [List.append_assoc]
      exact Gives.trans (B := jobM J E (setVar s1 nm v) A' c' ++ (X ++ (rcel b5 50 [.int .u8 2, .int .i64 num, .string nm, .slice B kids.length cp] :: F))) (by exact kGives) (by
        rw [← List.append_assoc, ← List.append_assoc]
        exact Takes.drop2 _ _ _)
    · rintro p _ ⟨N', ⟨x, he, rfl, A', c', rfl⟩, rfl⟩
      simp only at he
      subst he
      refine kAutoB ?_
      refine XJ.panics (jobM J E s1 A' c' ++ X) ?_ ⟨x, rfl, rfl, A', c', rfl⟩
      exact Takes.drop2 _ _ _
  · have h2' : ¬ kd = 2 := by simpa using h2
    obtain ⟨hk3, q, rfl, hq⟩ : kd = 3 ∧ ∃ a, kids = [a] ∧ isB a 1 = true := by
      rcases hp with hp | hp
      · exact absurd hp h2'
      · exact hp
    obtain ⟨b1, o1, r1, e1, hb1, hrl1, hr1⟩ := hN.at_ 0 (by simp)
    subst e1
    simp only [List.getElem_cons_zero, Nat.zero_mul, Nat.add_zero] at hb1 hr1
    have hqs : q.size < (Node.mk kd num nm [q]).size := Node.size_kid (n := .mk kd num nm [q]) (by simp [Node.kids])
    have hev := eval_own w0 k o A c q r1 (by omega) hr1 hq
    have harr := array_own w0 (J := J) (E := E) (s := s) A c nm
    rw [storeJ_item h2']
    refine kAutoB ?_
    (refine CJ.draws mixed 17 [rcel b5 50 _, rcel J.bm 114 (machV J E)] (Gives.cons (Takes.appR _ (Takes.appR _ (Takes.here _ _))) (Gives.cons (Takes.here _ _) (Gives.nil _))) (dom_of (by kernel_rfl)) ?_)
    ((first | refine kAjB 0 ?_ | refine kAjS 0 ?_); (first | refine kAjB 1 ?_ | refine kAjS 1 ?_); (first | refine kAjB 2 ?_ | refine kAjS 2 ?_); (first | refine kAjB 3 ?_ | refine kAjS 3 ?_); (first | refine kAjB 4 ?_ | refine kAjS 4 ?_); (first | refine kAjB 5 ?_ | refine kAjS 5 ?_))
    ((first | refine kAjB 7 ?_ | refine kAjS 7 ?_); (first | refine kAjB 8 ?_ | refine kAjS 8 ?_); (first | refine kAjB 9 ?_ | refine kAjS 9 ?_); (first | refine kAjB 10 ?_ | refine kAjS 10 ?_); (first | refine kAjB 11 ?_ | refine kAjS 11 ?_); (first | refine kAjB 12 ?_ | refine kAjS 12 ?_))
    (apply AJ.pur (i := 13); exact rfl; exact rfl; exact rfl; exact rfl; exact rfl; exact rfl; exact rfl; exact rfl; exact rfl; (exact OpP.indexAddrC 0 (by exact kEv) rfl (by simp) o1 (by omega)))
    (apply AJ.pur (i := 14); exact rfl; exact rfl; exact rfl; exact rfl; exact rfl; exact rfl; exact rfl; exact rfl; exact rfl; (apply OpP.loadA; exact kEv; exact HasAt.base hb1; exact hrl1))
    (refine AJ.loud1 (i := 6) (by kernel_rfl) (by kernel_rfl) rfl (by kernel_rfl) (by kernel_rfl) rfl rfl rfl rfl rfl rfl (OpS.callO harr (by exact kEv) inferInstance (by exact kEvl) (by exact rfl) (Takes.app _ _)) ?_ ?_)
    · rintro v _ ⟨N', ⟨hv, rfl⟩, rfl⟩
      refine ⟨by (repeat (first | exact Gives.refl _ | exact Gives.nil _ | (apply Gives.cons; (focus ((first | ((repeat (first | exact Takes.here _ _ | apply Takes.there)); done) | (apply Takes.appR; exact kTake; done) | (apply Takes.appR; apply Takes.appR; exact kTake; done))))) | apply Gives.drop)), ?_⟩
      cases hix : E.ix nm with
      | none => unfold arrV at hv; rw [hix] at hv; cases hv
      | some a =>
        have hv' : v = J.us.getD a undef := by unfold arrV at hv; rw [hix] at hv; injection hv with hv; exact hv.symm
        have ha := k.ix nm a hix
        have hul := k.us
        have hcl := o.len
        have hua : J.us[a]? = some (J.us.getD a undef) := by simp [List.getD_eq_getElem?_getD, show a < J.us.length by omega]
        have hca : s.cells[a]? = some (s.cells.getD a []) := by simp [List.getD_eq_getElem?_getD, show a < s.cells.length by omega]
        rw [← hv'] at hua
        clear hv
        simp only
        (refine AJ.loud1 (i := 15) (by kernel_rfl) (by kernel_rfl) rfl (by kernel_rfl) (by kernel_rfl) rfl rfl rfl rfl rfl rfl (OpS.callO hev (by exact kEv) inferInstance (by exact kEvl) (by exact rfl) (Takes.app _ _)) ?_ ?_)
        · rintro x _ ⟨N', ⟨hx, rfl⟩, rfl⟩
          refine ⟨by (repeat (first | exact Gives.refl _ | exact Gives.nil _ | (apply Gives.cons; (focus ((first | ((repeat (first | exact Takes.here _ _ | apply Takes.there)); done) | (apply Takes.appR; exact kTake; done) | (apply Takes.appR; apply Takes.appR; exact kTake; done))))) | apply Gives.drop)), ?_⟩
          obtain ⟨i, hi, rfl⟩ := resE_ok hx
          rw [hi]
          simp only
          have hri : I32 i := o.ev hi
          refine AJ.fact (p := ∃ (A1 : Option Addr) (c1 : Nat), v = .slice A1 (s.cells.getD a []).length c1) (fun h m => row_slice (job_take hua hca _) m) ?_
          rintro ⟨A1, c1, rfl⟩
          ((first | refine kAjB 16 ?_ | refine kAjS 16 ?_))
          (refine AJ.tail (by kernel_rfl) (by kernel_rfl) rfl (by kernel_rfl) (by kernel_rfl) (by kernel_rfl) ?_)
          refine kAutoB ?_
          have hidx := index_spec16 w0 i A1 (s.cells.getD a []).length c1
          have hfin : ∀ (s1 : JS) (A' : Option Addr) (c' : Nat), s1.cells = s.cells → Takes (jobM J E s1 A' c' ++ (X ++ (rcel b5 50 [.int .u8 kd, .int .i64 num, .string nm, .slice (some ⟨b1, o1, none⟩) [q].length cp] :: F))) [rowI (.slice A1 (s.cells.getD a []).length c1) (s.cells.getD a [])]
              (jobH J E s1 A' c' ++ (innerM (J.us.eraseIdx a) (s1.cells.eraseIdx a) ++ (X ++ (rcel b5 50 [.int .u8 kd, .int .i64 num, .string nm, .slice (some ⟨b1, o1, none⟩) [q].length cp] :: F)))) := fun s1 A' c' h1 => job_take hua (by rw [h1]; exact hca) _
          have hdrop : ∀ (s1 : JS) (A' : Option Addr) (c' : Nat), Gives (jobM J E s1 A' c' ++ (X ++ (rcel b5 50 [.int .u8 kd, .int .i64 num, .string nm, .slice (some ⟨b1, o1, none⟩) [q].length cp] :: F))) ((jobM J E s1 A' c' ++ X) ++ F) := by
            intro s1 A' c'
            rw [← List.append_assoc]
            exact Takes.drop2 _ _ _
          cases early
          · refine kAutoB ?_
            (apply RL.callE; exact kEv; exact inferInstance; exact kEvl; exact hidx; exact rfl)
            · intro v hv
              cases hib : idxB i (s.cells.getD a []).length with
              | false => rw [hib] at hv; cases hv
              | true =>
                rw [hib, if_pos rfl] at hv
                injection hv with hv
                subst hv
                obtain ⟨hw, hlt⟩ := idx_nat hri hib
                rw [hw]
                simp only [Bool.false_eq_true, if_false, if_true]
                generalize g s = r at *
                obtain ⟨s1, x⟩ := r
                simp only at hc1
                refine kAutoB ?_
                (apply RL.callKP; exact kEv; exact hf; exact kEvl; exact Takes.assoc; exact hget; exact rfl)
                · rintro _ _ ⟨v, hv, rfl, A', c', rfl⟩
                  simp only at hv
                  subst hv
                  rw [List.append_assoc]
                  refine kAutoB ?_
                  refine RL.fact (p := ∃ b2 : Nat, A1 = some ⟨b2, 0, none⟩) (fun h m => ?_) ?_
                  · obtain ⟨b2, c2, e2⟩ := row_addr (hfin s1 A' c' hc1) m (by omega)
                    simp only [Value.slice.injEq] at e2
                    exact ⟨b2, e2.1⟩
                  rintro ⟨b2, rfl⟩
                  apply RL.pur; (apply OpP.indexAddr; exact kEv; exact kEv; exact hlt); exact rfl
                  refine RL.rowSet (by exact kEv) (by exact kEv) rfl rfl (hfin s1 A' c' hc1) (by simpa using hlt) ?_
                  refine kAutoB ?_
                  refine XJ.end0 rfl (jobM J E (setCell s1 a i v) A' c' ++ X) ?_ ⟨rfl, rfl, A', c', rfl⟩
                  have hrow : row 21 1 (.slice (some ⟨b2, 0, none⟩) (s.cells.getD a []).length c1) (s.cells.getD a []).length (((s.cells.getD a []).map intV).set i.toNat (.int .i32 v)) = rowI (.slice (some ⟨b2, 0, none⟩) (s.cells.getD a []).length c1) ((s.cells.getD a []).set i.toNat v) := by
                    unfold rowI
                    rw [List.length_set, List.map_set]
                    rfl
                  refine Gives.trans (B := rowI (.slice (some ⟨b2, 0, none⟩) (s.cells.getD a []).length c1) ((s.cells.getD a []).set i.toNat v) :: (jobH J E s1 A' c' ++ (innerM (J.us.eraseIdx a) (s1.cells.eraseIdx a) ++ (X ++ (rcel b5 50 [.int .u8 kd, .int .i64 num, .string nm, .slice (some ⟨b1, o1, none⟩) [q].length cp] :: F))))) (by rw [← hrow, Nat.mul_one, Nat.zero_add]; exact Gives.refl _) ?_
                  refine (job_put ((s.cells.getD a []).set i.toNat v) hua (by rw [hc1]; omega) _).trans ?_
                  have hset : { s1 with cells := s1.cells.set a ((s.cells.getD a []).set i.toNat v) } = setCell s1 a i v := by unfold setCell; rw [hc1]
                  rw [hset]
                  exact hdrop (setCell s1 a i v) A' c'
                · rintro p _ ⟨x, he, rfl, A', c', rfl⟩
                  simp only at he
                  subst he
                  rw [List.append_assoc]
                  refine kAutoB ?_
                  exact XJ.panics (jobM J E s1 A' c' ++ X) (hdrop s1 A' c') ⟨x, rfl, rfl, A', c', rfl⟩
            · intro p hp'
              cases hib : idxB i (s.cells.getD a []).length with
              | true => rw [hib, if_pos rfl] at hp'; cases hp'
              | false =>
                rw [hib] at hp'
                simp at hp'
                subst hp'
                refine kAutoB ?_
                exact XJ.panics (jobM J E s A c ++ X) (hdrop s A c) ⟨11, rfl, rfl, A, c, rfl⟩
          · simp only [if_true]
            generalize g s = r at *
            obtain ⟨s1, x⟩ := r
            simp only at hc1
            refine kAutoB ?_
            (apply RL.callKP; exact kEv; exact hf; exact kEvl; exact Takes.assoc; exact hget; exact rfl)
            · rintro _ _ ⟨v, hv, rfl, A', c', rfl⟩
              simp only at hv
              subst hv
              rw [List.append_assoc]
              refine kAutoB ?_
              (apply RL.callE; exact kEv; exact inferInstance; exact kEvl; exact hidx; exact rfl)
              · intro u hu
                cases hib : idxB i (s.cells.getD a []).length with
                | false => rw [hib] at hu; cases hu
                | true =>
                  rw [hib, if_pos rfl] at hu
                  injection hu with hu
                  subst hu
                  obtain ⟨hw, hlt⟩ := idx_nat hri hib
                  rw [hw]
                  refine kAutoB ?_
                  refine RL.fact (p := ∃ b2 : Nat, A1 = some ⟨b2, 0, none⟩) (fun h m => ?_) ?_
                  · obtain ⟨b2, c2, e2⟩ := row_addr (hfin s1 A' c' hc1) m (by omega)
                    simp only [Value.slice.injEq] at e2
                    exact ⟨b2, e2.1⟩
                  rintro ⟨b2, rfl⟩
                  apply RL.pur; (apply OpP.indexAddr; exact kEv; exact kEv; exact hlt); exact rfl
                  refine RL.rowSet (by exact kEv) (by exact kEv) rfl rfl (hfin s1 A' c' hc1) (by simpa using hlt) ?_
                  refine kAutoB ?_
                  refine XJ.end0 rfl (jobM J E (setCell s1 a i v) A' c' ++ X) ?_ ⟨rfl, rfl, A', c', rfl⟩
                  have hrow : row 21 1 (.slice (some ⟨b2, 0, none⟩) (s.cells.getD a []).length c1) (s.cells.getD a []).length (((s.cells.getD a []).map intV).set i.toNat (.int .i32 v)) = rowI (.slice (some ⟨b2, 0, none⟩) (s.cells.getD a []).length c1) ((s.cells.getD a []).set i.toNat v) := by
                    unfold rowI
                    rw [List.length_set, List.map_set]
                    rfl
                  refine Gives.trans (B := rowI (.slice (some ⟨b2, 0, none⟩) (s.cells.getD a []).length c1) ((s.cells.getD a []).set i.toNat v) :: (jobH J E s1 A' c' ++ (innerM (J.us.eraseIdx a) (s1.cells.eraseIdx a) ++ (X ++ (rcel b5 50 [.int .u8 kd, .int .i64 num, .string nm, .slice (some ⟨b1, o1, none⟩) [q].length cp] :: F))))) (by rw [← hrow, Nat.mul_one, Nat.zero_add]; exact Gives.refl _) ?_
                  refine (job_put ((s.cells.getD a []).set i.toNat v) hua (by rw [hc1]; omega) _).trans ?_
                  have hset : { s1 with cells := s1.cells.set a ((s.cells.getD a []).set i.toNat v) } = setCell s1 a i v := by unfold setCell; rw [hc1]
                  rw [hset]
                  exact hdrop (setCell s1 a i v) A' c'
              · intro p hp'
                cases hib : idxB i (s.cells.getD a []).length with
                | true => rw [hib, if_pos rfl] at hp'; cases hp'
                | false =>
                  rw [hib] at hp'
                  simp at hp'
                  subst hp'
                  refine kAutoB ?_
                  exact XJ.panics (jobM J E s1 A' c' ++ X) (hdrop s1 A' c') ⟨11, rfl, rfl, A', c', rfl⟩
            · rintro p _ ⟨x, he, rfl, A', c', rfl⟩
              simp only at he
              subst he
              rw [List.append_assoc]
              refine kAutoB ?_
              exact XJ.panics (jobM J E s1 A' c' ++ X) (hdrop s1 A' c') ⟨x, rfl, rfl, A', c', rfl⟩
        · rintro p _ ⟨N', ⟨hp', rfl⟩, rfl⟩
          obtain ⟨e, he, rfl⟩ := resE_err hp'
          rw [he]
          refine kAutoB ?_
          refine XJ.panics (jobM J E s A c ++ X) ?_ ⟨e, rfl, rfl, A, c, rfl⟩
          rw [← List.append_assoc]
          exact Takes.drop2 _ _ _
    · rintro p _ ⟨N', ⟨hp', rfl⟩, rfl⟩
      cases hix : E.ix nm with
      | some a => unfold arrV at hp'; rw [hix] at hp'; cases hp'
      | none =>
        unfold arrV at hp'
        rw [hix] at hp'
        injection hp' with hp'
        subst hp'
        refine kAutoB ?_
        refine XJ.panics (jobM J E s A c ++ X) ?_ ⟨6, rfl, rfl, A, c, rfl⟩
        rw [← List.append_assoc]
        exact Takes.drop2 _ _ _
end Go.Proofs.YtgmapenlgammfaaGreatDoor
