import Derived.Test.YtgmapenlgammfaaGreatDoorGR
import Derived.Test.YtgmapenlgammfaaGreatDoorGD
import Derived.Test.YtgmapenlgammfaaGreatDoorGC
import Derived.Test.YtgmapenlgammfaaGreatDoorGK
import Derived.Test.YtgmapenlgammfaaGreatDoorGX
set_option linter.all false
/- The package interp: Expr. -/
namespace Go.Proofs.YtgmapenlgammfaaGreatDoor
open Go
def exprV (ρ : ByteArray → Option Int) (α : ByteArray → Option (List Int)) (n : Node) : Int × Int := if isB n 1 then resP (evalE ρ α n) else (0, 3)
theorem Expr16_spec (w0 : World) (hT : Tab w0) (rv ra : Nat) (ρ : ByteArray → Option Int) (α : ByteArray → Option (List Int)) (hE : EnvB w0 rv ra ρ α) (n : Node) (cs : List Value) (hs : n.size < 4611686018427387904) (hR : NodeR w0 n cs) :
    Spec Tryz.prog w0 36 #[.agg cs.toArray, .map (some rv), .map (some ra)] [] (Is (.tuple #[.int .i32 (exprV ρ α n).1, .int .i64 (exprV ρ α n).2])) := by
  have hI := isExpr_spec w0 hT n cs hs hR
  have hEv := fun h => eval_spec w0 rv ra ρ α hE n.size n cs (Nat.le_refl _) hs hR h
  obtain ⟨A, cap, rfl, hcap, -⟩ := hR.kids
  refine Spec.enterD (args := [_, _, _]) Tryz.func36 rfl rfl rfl (fun F => ?_)
  refine kAutoB ?_
  (apply RL.boxR; exact kEv; exact rfl; intro b3)
  refine kAutoB ?_
  (apply RL.alloc; exact rfl; exact rfl; intro b7)
  refine kAutoB ?_
  (apply RL.callIs; exact kEv; exact inferInstance; exact kEvl; exact hI; exact rfl)
  cases hB : isB n 1
  · refine kAutoB ?_
    (apply RL.store; exact kEv; exact kEv; exact kTake; exact rfl; exact rfl; exact rfl)
    refine kAutoB ?_
    exact XJ.early (XJ.retTC rfl rfl rfl (HasAt.pt (Takes.here _ _) atAll) [] (by exact kGives) ⟨by simp [exprV, hB], rfl⟩)
  have hev := hEv hB
  refine kAutoB ?_
  refine RL.defer (cap := [.pointer (some ⟨b7, 0, none⟩)]) (by exact kEv) ?_
  refine RLD.nil ?_
  refine XJD.next ?_
  refine CJD.seq ?_
  refine CJD.region ?_
  (apply RLD.pur; exact kPureB; exact rfl)
  (apply RLD.pur; exact kPureB; exact rfl)
  (apply RLD.pur; exact kPureB; exact rfl)
  (apply RLD.pur; exact kPureB; exact rfl)
  refine RLD.s (OpS.callE (by exact kEv) inferInstance (by exact kEvl) hev) rfl ?_ ?_
  · rintro v _ ⟨hv, rfl⟩
    obtain ⟨x, hx, rfl⟩ : ∃ x, evalE ρ α n = .ok x ∧ v = .int .i32 x := by
      cases e : evalE ρ α n with
      | ok x => rw [e] at hv; injection hv with hv; exact ⟨x, rfl, hv.symm⟩
      | error e' => rw [e] at hv; cases hv
    (apply RLD.pur; exact kPureB; exact rfl)
    refine RLD.s0 (OpS.store (by exact kEv) (by exact kEv) rfl rfl (Takes.here _ _) (by decide)) ?_ (fun _ _ h => h.elim)
    rintro _ _ rfl
    refine RLD.nil ?_
    refine XJD.next ?_
    refine CJD.ret ?_
    refine XJD.leave inferInstance (expr1_none w0 b7 _) ?_
    exact XJ.retTC rfl rfl rfl (HasAt.pt (Takes.here _ _) atAll) [] (by exact kGives) ⟨by simp [exprV, hB, hx, resP], rfl⟩
  · rintro c _ ⟨hc, rfl⟩
    obtain ⟨x, hx, rfl⟩ : ∃ x, evalE ρ α n = .error x ∧ c = stopV x := by
      cases e : evalE ρ α n with
      | ok x => rw [e] at hc; cases hc
      | error e' => rw [e] at hc; injection hc with hc; exact ⟨e', rfl, hc.symm⟩
    refine XJD.then_panic ?_
    refine XJD.caught inferInstance (expr1_some w0 b7 _ x _ _) ?_
    exact XJ.retTC rfl rfl rfl (HasAt.pt (Takes.here _ _) atAll) [] (by exact kGives) ⟨by simp [exprV, hB, hx, resP], rfl⟩
end Go.Proofs.YtgmapenlgammfaaGreatDoor

/- The law InterpExprs: the walk. -/
namespace Go.Proofs.YtgmapenlgammfaaGreatDoor
open Go
theorem findD_app (l r : List RC) (nm : ByteArray) (arr : Bool) : ∀ j, j ≤ l.length → findD (l ++ r) nm arr j = findD l nm arr j
  | 0, _ => rfl
  | j + 1, h => by
    rw [findD, findD, findD_app l r nm arr j (by omega)]
    have : (l ++ r).getD j rc0 = l.getD j rc0 := by
      simp only [List.getD_eq_getElem?_getD]
      rw [List.getElem?_append_left (by omega)]
    rw [this]
theorem findD_snoc (l : List RC) (c : RC) (nm : ByteArray) (arr : Bool) : findD (l ++ [c]) nm arr (l ++ [c]).length = if c.name = nm ∧ c.arr = arr then (l.length : Int) else findD l nm arr l.length := by
  rw [List.length_append, List.length_singleton, findD, findD_app l _ nm arr _ (Nat.le_refl _)]
  have : (l ++ [c]).getD l.length rc0 = c := by simp [List.getD_eq_getElem?_getD]
  rw [this]
theorem getD_app (l r : List RC) (k : Nat) (h : k < l.length) : (l ++ r).getD k rc0 = l.getD k rc0 := by
  simp only [List.getD_eq_getElem?_getD]
  rw [List.getElem?_append_left h]
theorem cellI_snoc (l : List RC) (c : RC) (nm : ByteArray) (arr : Bool) : cellI (l ++ [c]) nm arr = if c.name = nm ∧ c.arr = arr then some c.l else cellI l nm arr := by
  unfold cellI
  rw [findD_snoc]
  split
  · rw [if_neg (by omega)]
    simp [List.getD_eq_getElem?_getD]
  · split
    · rfl
    · rename_i h
      have hr := findD_range l nm arr l.length
      rw [getD_app l [c] _ (by omega)]
theorem rhoC_snoc (l : List RC) (c : RC) : rhoC (l ++ [c]) = if c.arr = false then updI (rhoC l) c.name (c.l.getD 0 0) else rhoC l := by
  funext nm
  unfold rhoC
  rw [cellI_snoc]
  cases c.arr
  · by_cases h : c.name = nm
    · simp [h, updI]
    · simp [h, updI, Ne.symm h]
  · simp
/-- The values of arrays by name. -/
def alphaV (cells : List RC) (us : List Value) : ByteArray → Option Value := fun nm => if findD cells nm true cells.length < 0 then none else us[(findD cells nm true cells.length).toNat]?
theorem alphaV_snoc (l : List RC) (c : RC) (us : List Value) (u : Value) (hu : us[l.length]? = some u) : alphaV (l ++ [c]) us = if c.arr = true then upd (alphaV l us) c.name u else alphaV l us := by
  funext nm
  unfold alphaV
  rw [findD_snoc]
  cases c.arr
  · simp
  · by_cases h : c.name = nm
    · simp only [h, true_and, if_true, and_self]
      rw [if_neg (by omega), Int.toNat_natCast, hu]
      simp [upd]
    · simp [h, upd, Ne.symm h]
theorem rcRow_one (c : RC) {A : Option Addr} {n k : Nat} : ∀ x ∈ rcRow c (.slice A n k), x.oneCell' = true := by
  intro x hx
  simp only [rcRow, List.mem_cons, List.not_mem_nil, or_false] at hx
  rcases hx with rfl | rfl | rfl <;> rfl
theorem vars_upd' (f : ByteArray → Option Int) (nm : ByteArray) (v : Int) : upd (fun n => (f n).map intV) nm (intV v) = fun n => ((updI f nm v) n).map intV := vars_upd f nm v
theorem exprs_spec (w0 : World) (hT : Tab w0) (n : Node) (ncs : List Value) (hR : NodeR w0 n ncs) (v : Value) (cells : List RC) (hC : CellsR w0 v cells) (h32 : ∀ c ∈ cells, ∀ x ∈ c.l, I32 x) (hcl : cells.length ≤ maxLen) :
    Spec Tryz.prog w0 10 #[.agg ncs.toArray, v] [] (Is (.bool true)) := by
  have hA := awake_spec w0 hT
  have hBig := Big_spec w0 n ncs hR
  have hR0 := hR
  obtain ⟨An, capn, rfl, -, -⟩ := hR.kids
  obtain ⟨A, cp, us, rfl, hc, hl, hr, hin⟩ := hC
  simp only [maxLen] at hcl
  refine Spec.enter (args := [_, _]) Tryz.func10 rfl rfl rfl (fun F => ?_)
  refine kAutoB ?_
  (apply RL.boxR; exact kEv; exact rfl; intro b2)
  refine kAutoB ?_
  (apply RL.callIs; exact kEv; exact inferInstance; exact kEvl; exact hA; exact rfl)
  refine kAutoB ?_
  (apply RL.callIs; exact kEv; exact inferInstance; exact kEvl; exact hBig; exact rfl)
  cases e1 : bigB n
  case true =>
    refine kAutoB ?_
    exact XJ.ret1 rfl rfl [] (by exact kGives) ⟨rfl, rfl⟩
  have hsz := bigB_size e1
  refine kAutoB ?_
  cases e2 : decide ((cells.length : Int) > 10)
  case true =>
    refine kAutoB ?_
    exact XJ.ret1 rfl rfl [] (by exact kGives) ⟨rfl, rfl⟩
  have e2' := of_decide_eq_false e2
  refine kAutoB ?_
  refine RL.makeMap rfl Value.string (fun r5 => ?_)
  refine RL.makeMap rfl Value.string (fun r6 => ?_)
  refine kAutoB ?_
  refine CJ.gives (row_nil 54 3) ?_
  have hm0 : (fun _ => none : ByteArray → Option Value) = fun s => (rhoC (cells.take 0) s).map intV := by funext s; rfl
  have hm1 : (fun _ => none : ByteArray → Option Value) = alphaV (cells.take 0) us := by funext s; rfl
  refine CJ.gives (M' := row 54 3 (.slice none 0 0) 0 ((List.zipWith rcRow cells us).take 0).flatten :: mp Value.string r5 (fun s => (rhoC (cells.take 0) s).map intV) :: mp Value.string r6 (alphaV (cells.take 0) us) :: rcel b2 50 [.int .u8 n.kind, .int .i64 n.num, .string n.name, .slice An n.kids.length capn] :: F) (by rw [← hm0, ← hm1]; exact kGives) ?_
  refine CJ.loop (σ := Nat × Option Addr × Nat) (fun s => s.1 ≤ cells.length ∧ ∀ c ∈ cells.take s.1, c.l.length ≤ 70 ∧ (c.arr = false → c.l.length = 1))
    (fun s => [(28, .int .i64 (s.1 : Int)), (27, .int .i64 cells.length), (26, .slice A cells.length cp), (7, .slice s.2.1 s.1 s.2.2), (6, .map (some r6)), (5, .map (some r5)), (2, .pointer (some ⟨b2, 0, none⟩))])
    (fun s => row 54 3 (.slice s.2.1 s.1 s.2.2) s.1 ((List.zipWith rcRow cells us).take s.1).flatten :: mp Value.string r5 (fun x => (rhoC (cells.take s.1) x).map intV) :: mp Value.string r6 (alphaV (cells.take s.1) us) :: rcel b2 50 [.int .u8 n.kind, .int .i64 n.num, .string n.name, .slice An n.kids.length capn] :: F)
    (fun s => cells.length - s.1) (0, none, 0) ⟨Nat.zero_le _, fun c hc => by simp at hc⟩ (by exact kEsub) (by exact kGives) ?_
  rintro ⟨i, Ao, co⟩ ⟨hi, hok⟩
  simp only at hi hok
  refine kAutoB ?_
  cases hlt : decide ((i : Int) < (cells.length : Int))
  case false =>
    have hge : i = cells.length := by have := of_decide_eq_false hlt; omega
    subst hge
    rw [List.take_length] at hok
    refine kAutoB ?_
    have hokC : CellsOk cells := ⟨by omega, fun c hc => ⟨h32 c hc, by have := (hok c hc).1; omega, fun h => by have := (hok c hc).2 h; omega⟩⟩
    refine RL.toBase (fun w h mm sa => ?_)
    rw [List.take_length, List.take_of_length_le (by simp; omega)] at mm
    have hTw := hT.sat sa
    have hRw := hR0.up sa.below
    have f2 := rcel_base (Takes.here _ _) mm.tail.tail.tail sa
    have hE : EnvB w r5 r6 (rhoC cells) (alphaC cells) := by
      refine ⟨mp_mapB (Takes.here _ _) mm.tail sa, ⟨alphaV cells us, mp_mapB (Takes.here _ _) mm.tail.tail sa, ?_, ?_⟩, rhoC_i32 hokC, alphaC_i32 hokC⟩
      · intro s hs
        unfold alphaV
        rw [cellI_none hs]
        rfl
      · intro s l hs
        obtain ⟨k, hk, hfk, hl', -⟩ := cellI_mem hs
        have hk2 : k < us.length := by omega
        refine ⟨us[k], ?_, ?_⟩
        · unfold alphaV
          rw [hfk, if_neg (by omega), Int.toNat_natCast]
          exact List.getElem?_eq_getElem hk2
        · rw [← hl']
          exact (hin k _ _ (List.getElem?_eq_getElem hk) (List.getElem?_eq_getElem hk2)).up sa.below
    have hzr : ∀ r ∈ List.zipWith rcRow cells us, r.length = 3 := by
      intro r hr'
      obtain ⟨k, hk, rfl⟩ := List.getElem_of_mem hr'
      rw [List.getElem_zipWith]
      rfl
    have hCw : CellsR w (.slice Ao cells.length co) cells := by
      refine ⟨Ao, co, us, rfl, row_cap (Takes.here _ _) mm, hl, ?_, fun i c u e1 e2 => (hin i c u e1 e2).up sa.below⟩
      rcases Nat.eq_zero_or_pos cells.length with h0 | h0
      · intro i r hr'
        rw [List.getElem?_eq_none (by simp; omega)] at hr'
        cases hr'
      · obtain ⟨bq, c', e⟩ := row_ptrN' (Takes.here _ _) mm h0
        simp only [Value.slice.injEq] at e
        obtain ⟨rfl, -, -⟩ := e
        exact rowsB_flat hzr (rowN_base' (Takes.here _ _) mm sa)
    refine RL.gives (M' := []) (Gives.nil _) ?_
    (apply RL.callIs; exact kEv; exact inferInstance; exact kEvl; exact (Expr16_spec w hTw r5 r6 _ _ hE n _ (by omega) hRw); exact rfl)
    refine kAutoB ?_
    (apply RL.callIs; exact kEv; exact inferInstance; exact kEvl; exact (isExpr_spec w hTw n _ (by omega) hRw); exact rfl)
    cases hB : isB n 1
    · have hx : exprV (rhoC cells) (alphaC cells) n = (0, 3) := by simp [exprV, hB]
      rw [hx]
      refine kAutoB ?_
      exact XJ.ret1B mm sa rfl rfl (by (repeat (first | exact Gives.refl _ | apply Gives.drop | apply Gives.skipApp))) ⟨rfl, rfl⟩
    have hx : exprV (rhoC cells) (alphaC cells) n = resP (evalE (rhoC cells) (alphaC cells) n) := by simp [exprV, hB]
    rw [hx]
    refine kAutoB ?_
    (apply RL.callIs; exact kEv; exact inferInstance; exact kEvl; exact (rExpr_spec w _ cells hCw hokC n.size n _ (Nat.le_refl _) (by omega) hRw hB); exact rfl)
    refine kAutoB ?_
    cases hev : evalE (rhoC cells) (alphaC cells) n with
    | ok x =>
      simp only [resP]
      refine kAutoB ?_
      rw [beq_self_eq_true]
      refine kAutoB ?_
      exact XJ.ret1B mm sa rfl rfl (by (repeat (first | exact Gives.refl _ | apply Gives.drop | apply Gives.skipApp))) ⟨rfl, rfl⟩
    | error e =>
      have hn0 := eval_ne0 _ _ n.size n (Nat.le_refl _) hB e hev
      simp only [resP]
      rw [beq_self_eq_true]
      refine kAutoB ?_
      rw [show (e != 0) = true by simpa using hn0]
      refine kAutoB ?_
      exact XJ.ret1B mm sa rfl rfl (by (repeat (first | exact Gives.refl _ | apply Gives.drop | apply Gives.skipApp))) ⟨rfl, rfl⟩
  have hlt' : i < cells.length := by have := of_decide_eq_true hlt; omega
  have hi2 : i < us.length := by omega
  obtain ⟨b, o, e, _, hb⟩ := hr.at_ i (by simp; omega)
  simp only [List.getElem_zipWith] at hb
  subst e
  obtain ⟨Ai, ci, hui, hci, hri⟩ := hin i _ _ (List.getElem?_eq_getElem hlt') (List.getElem?_eq_getElem hi2)
  have hus : us[(cells.take i).length]? = some us[i] := by rw [List.length_take, Nat.min_eq_left hi]; exact List.getElem?_eq_getElem hi2
  have hts : cells.take (i + 1) = cells.take i ++ [cells[i]] := List.take_succ_eq_append_getElem hlt'
  have hzl : (List.zipWith rcRow cells us).take (i + 1) = (List.zipWith rcRow cells us).take i ++ [rcRow cells[i] us[i]] := by
    rw [List.take_succ_eq_append_getElem (by simp; omega), List.getElem_zipWith]
  have hrs := rhoC_snoc (cells.take i) cells[i]
  have has := alphaV_snoc (cells.take i) cells[i] us us[i] hus
  rw [← hts] at hrs has
  generalize us[i] = ui at *
  subst hui
  refine kAutoB ?_
  apply RL.pur; (apply OpP.indexAddr; exact kEv; exact kEv; exact hlt'); exact rfl
  apply RL.pur; (apply OpP.loadA; exact kEv; exact HasAt.base hb; exact rfl); exact rfl
  (apply RL.alloc; exact rfl; exact rfl; intro b9)
  refine kAutoB ?_
  (apply RL.storeW; exact kEv; exact kEv; exact kTake; exact rfl; exact rfl; exact rfl)
  refine kAutoB ?_
  cases f1 : decide ((cells[i].l.length : Int) > 70)
  case true =>
    refine kAutoB ?_
    exact XJ.ret1 rfl rfl [] (by exact kGives) ⟨rfl, rfl⟩
  have f1' := of_decide_eq_false f1
  refine kAutoB ?_
  cases ha : cells[i].arr
  case true =>
    rw [ha] at hrs has
    simp only [Bool.true_eq_false, if_false, if_true] at hrs has
    refine kAutoB ?_
    refine RL.bsl (rcRow cells[i] (.slice Ai cells[i].l.length ci)) rfl (by exact kEvl) (fun w => by kernel_rfl) rfl (fun b49 => ?_)
    refine RL.append (by exact kEv) (by exact kEv) (Takes.there (Takes.there (Takes.here _ _))) (m := 1) (news := rcRow cells[i] (.slice Ai cells[i].l.length ci)) (fun h _ => ⟨rfl, rcRow_one _, .inr ⟨_, _, _, rfl, HasAt.pt (Takes.here _ _) atAll⟩⟩) (by show i + 1 ≤ _; simp only [maxLen]; omega) (by show (i + 1) * _ ≤ _; omega) rfl (fun A10 c10 => ?_)
    refine kAutoB ?_
    rw [ha]
    refine kAutoB ?_
    ((apply RL.mapUpdate; exact kEv; exact kEv; exact kEv; exact kTake))
    refine kAutoB ?_
    rw [i64_up i (by omega)]
    refine XJ.round (i + 1, A10, c10) ⟨by simp only; omega, ?_⟩ (by simp only; omega) (by exact kEsub) ?_
    · simp only
      rw [hts]
      intro c hc
      rcases List.mem_append.1 hc with hc | hc
      · exact hok c hc
      · simp at hc
        subst hc
        exact ⟨by omega, fun h => by rw [ha] at h; cases h⟩
    · simp only
      rw [hrs, has, hzl, List.flatten_append]
      simp only [List.flatten_cons, List.flatten_nil, List.append_nil]
      exact Gives.cons (Takes.there (Takes.here _ _)) (Gives.cons (Takes.there (Takes.there (Takes.there (Takes.here _ _)))) (Gives.cons (Takes.here _ _) (Gives.drop (Gives.drop (Gives.refl _)))))
  rw [ha] at hrs has
  simp only [Bool.false_eq_true, if_false, if_true] at hrs has
  refine kAutoB ?_
  cases f2 : ((cells[i].l.length : Int) != 1)
  case true =>
    refine kAutoB ?_
    exact XJ.ret1 rfl rfl [] (by exact kGives) ⟨rfl, rfl⟩
  have f2' : cells[i].l.length = 1 := by have : (cells[i].l.length : Int) = 1 := by simpa using f2
                                         omega
  obtain ⟨b', o', e', -, hb'⟩ := hri.at_ 0 (by simp; omega)
  subst e'
  simp only [List.getElem_map] at hb'
  have hx0 : cells[i].l.getD 0 0 = cells[i].l[0]'(by omega) := by simp [List.getD_eq_getElem?_getD, show 0 < cells[i].l.length by omega]
  refine kAutoB ?_
  refine RL.bsl (rcRow cells[i] (.slice (some ⟨b', o', none⟩) cells[i].l.length ci)) rfl (by exact kEvl) (fun w => by kernel_rfl) rfl (fun b49 => ?_)
  refine RL.append (by exact kEv) (by exact kEv) (Takes.there (Takes.there (Takes.here _ _))) (m := 1) (news := rcRow cells[i] (.slice (some ⟨b', o', none⟩) cells[i].l.length ci)) (fun h _ => ⟨rfl, rcRow_one _, .inr ⟨_, _, _, rfl, HasAt.pt (Takes.here _ _) atAll⟩⟩) (by show i + 1 ≤ _; simp only [maxLen]; omega) (by show (i + 1) * _ ≤ _; omega) rfl (fun A10 c10 => ?_)
  refine kAutoB ?_
  rw [ha]
  refine kAutoB ?_
  (refine CJ.draws mixed 8 [cel b9 _ _] (by exact kGives) (dom_of (by kernel_rfl)) ?_)
  ((first | refine kAjB 0 ?_ | refine kAjS 0 ?_); (first | refine kAjB 1 ?_ | refine kAjS 1 ?_); (first | refine kAjB 2 ?_ | refine kAjS 2 ?_); (first | refine kAjB 3 ?_ | refine kAjS 3 ?_); (first | refine kAjB 4 ?_ | refine kAjS 4 ?_))
  (apply AJ.pur (i := 5); exact rfl; exact rfl; exact rfl; exact rfl; exact rfl; exact rfl; exact rfl; exact rfl; exact rfl; exact OpP.indexAddrC 0 kEv rfl (by omega) (o' + 0 * 1) rfl)
  (apply AJ.pur (i := 6); exact rfl; exact rfl; exact rfl; exact rfl; exact rfl; exact rfl; exact rfl; exact rfl; exact rfl; (apply OpP.load; exact kEv; exact HasAt.base hb'))
  (refine AJ.loud0 (i := 7) (by kernel_rfl) (by kernel_rfl) rfl (by kernel_rfl) (by kernel_rfl) rfl rfl rfl rfl (OpS.mapUpdate (by exact kEv) (by exact kEv) (by exact kEv) (Takes.there (Takes.there (Takes.there (Takes.here _ _))))) ?_ ?_)
  rotate_left
  · rintro _ _ h; exact h.elim
  rintro _ _ rfl
  refine ⟨by exact kGives, ?_⟩
  rw [vars_upd', ← hx0, ← hrs]
  (refine AJ.done (by kernel_rfl) (by kernel_rfl) rfl (by kernel_rfl) ?_)
  refine kAutoB ?_
  rw [i64_up i (by omega)]
  refine XJ.round (i + 1, A10, c10) ⟨by simp only; omega, ?_⟩ (by simp only; omega) (by exact kEsub) ?_
  · simp only
    rw [hts]
    intro c hc
    rcases List.mem_append.1 hc with hc | hc
    · exact hok c hc
    · simp at hc
      subst hc
      exact ⟨by omega, fun h => f2'⟩
  · simp only
    rw [has, hzl, List.flatten_append]
    simp only [List.flatten_cons, List.flatten_nil, List.append_nil]
    exact Gives.cons (Takes.there (Takes.here _ _)) (Gives.cons (Takes.here _ _) (Gives.cons (Takes.there (Takes.there (Takes.here _ _))) (Gives.drop (Gives.drop (Gives.refl _)))))
end Go.Proofs.YtgmapenlgammfaaGreatDoor
