import Derived.Test.YtgmapenlgammfaaGreatDoorGX
import Derived.Test.YtgmapenlgammfaaGreatDoorGEx
import Derived.Test.YtgmapenlgammfaaGreatDoorGD
set_option linter.all false
/- The reference's cells and the machine's state: what corresponds to what. -/
namespace Go.Proofs.YtgmapenlgammfaaGreatDoor
open Go
theorem snocRec {α : Type} {motive : List α → Prop} (nil : motive []) (append_singleton : ∀ r p, motive r → motive (r ++ [p])) (l : List α) : motive l := by
  have key : ∀ m : List α, motive m.reverse := by
    intro m
    induction m with
    | nil => exact nil
    | cons x r ih => rw [List.reverse_cons]; exact append_singleton _ _ ih
  have := key l.reverse
  rwa [List.reverse_reverse] at this
abbrev Loc := List (ByteArray × Int)
def lookL (vs : Loc) : VM := vs.foldl (fun ρ p => updI ρ p.1 p.2) fun _ => none
def arrC (names : List ByteArray) (cs : List (List Int)) : List RC := List.zipWith (fun n l => ⟨n, true, l⟩) names cs
def locC (vs : Loc) : List RC := vs.map fun p => ⟨p.1, false, [p.2]⟩
/-- The reference's cells: the arrays, the shared objects, the variables. -/
def mkC (names : List ByteArray) (cs : List (List Int)) (vs : Loc) : List RC := arrC names cs ++ locC vs
theorem arrC_len {names : List ByteArray} {cs : List (List Int)} (h : cs.length = names.length) : (arrC names cs).length = names.length := by simp [arrC, h]
theorem mkC_len {names : List ByteArray} {cs : List (List Int)} {vs : Loc} (h : cs.length = names.length) : (mkC names cs vs).length = names.length + vs.length := by simp [mkC, arrC_len h, locC]
theorem rhoC_fold (vs : Loc) : ∀ base, rhoC (base ++ locC vs) = vs.foldl (fun ρ p => updI ρ p.1 p.2) (rhoC base) := by
  induction vs with
  | nil => intro base; simp [locC]
  | cons p r ih =>
    intro base
    have e : base ++ locC (p :: r) = (base ++ [⟨p.1, false, [p.2]⟩]) ++ locC r := by simp [locC]
    rw [e, ih, rhoC_snoc]
    rfl
theorem alphaC_fold (vs : Loc) : ∀ base, alphaC (base ++ locC vs) = alphaC base := by
  induction vs with
  | nil => intro base; simp [locC]
  | cons p r ih =>
    intro base
    have e : base ++ locC (p :: r) = (base ++ [⟨p.1, false, [p.2]⟩]) ++ locC r := by simp [locC]
    rw [e, ih]
    funext nm
    unfold alphaC
    rw [cellI_snoc]
    simp
theorem findD_none {l : List RC} {nm : ByteArray} {arr : Bool} (h : ∀ c ∈ l, ¬(c.name = nm ∧ c.arr = arr)) : ∀ j, j ≤ l.length → findD l nm arr j = -1
  | 0, _ => rfl
  | j + 1, hj => by
    rw [findD, if_neg, findD_none h j (by omega)]
    have : l.getD j rc0 = l[j]'(by omega) := by simp [List.getD_eq_getElem?_getD, show j < l.length by omega]
    rw [this]
    exact h _ (List.getElem_mem _)
theorem rhoC_arr (names : List ByteArray) (cs : List (List Int)) : rhoC (arrC names cs) = fun _ => none := by
  funext nm
  unfold rhoC cellI
  rw [findD_none (fun c hc => ?_) _ (Nat.le_refl _)]
  · rfl
  · obtain ⟨i, hi, rfl⟩ := List.getElem_of_mem hc
    simp [arrC]
theorem rhoC_mk (names : List ByteArray) (cs : List (List Int)) (vs : Loc) : rhoC (mkC names cs vs) = lookL vs := by
  unfold mkC
  rw [rhoC_fold, rhoC_arr]
  rfl
theorem lookL_snoc (vs : Loc) (nm : ByteArray) (v : Int) : lookL (vs ++ [(nm, v)]) = updI (lookL vs) nm v := by
  unfold lookL
  rw [List.foldl_append]
  rfl
/-- The place of a name in a list of names. -/
structure IxOk (names : List ByteArray) (ix : ByteArray → Option Nat) : Prop where
  nd : names.Nodup
  iff : ∀ nm i, ix nm = some i ↔ names[i]? = some nm
theorem nodup_get {names : List ByteArray} (h : names.Nodup) {i j : Nat} {nm : ByteArray} (h1 : names[i]? = some nm) (h2 : names[j]? = some nm) : i = j := by
  obtain ⟨hi, e1⟩ := List.getElem?_eq_some_iff.1 h1
  obtain ⟨hj, e2⟩ := List.getElem?_eq_some_iff.1 h2
  have hp := List.pairwise_iff_getElem.1 h
  rcases Nat.lt_trichotomy i j with hlt | heq | hgt
  · exact absurd (e1.trans e2.symm) (hp i j hi hj hlt)
  · exact heq
  · exact absurd (e2.trans e1.symm) (hp j i hj hi hgt)
theorem arrC_get {names : List ByteArray} {cs : List (List Int)} (hl : cs.length = names.length) {i : Nat} {nm : ByteArray} (h : names[i]? = some nm) : ∃ hi : i < (arrC names cs).length, (arrC names cs)[i] = ⟨nm, true, cs.getD i []⟩ := by
  obtain ⟨hi, e⟩ := List.getElem?_eq_some_iff.1 h
  refine ⟨by rw [arrC_len hl]; exact hi, ?_⟩
  simp only [arrC, List.getElem_zipWith, e]
  simp [List.getD_eq_getElem?_getD, show i < cs.length by omega]
theorem findD_arr {names : List ByteArray} {cs : List (List Int)} (hl : cs.length = names.length) (nd : names.Nodup) {i : Nat} {nm : ByteArray} (h : names[i]? = some nm) : findD (arrC names cs) nm true (arrC names cs).length = (i : Int) := by
  have hr := findD_range (arrC names cs) nm true (arrC names cs).length
  obtain ⟨hi, e⟩ := arrC_get hl h
  -- it is found at some place, and that place is i
  have hpos : ∀ j, i < j → j ≤ (arrC names cs).length → findD (arrC names cs) nm true j = (i : Int) := by
    intro j
    induction j with
    | zero => intro h; omega
    | succ j ih =>
      intro h1 h2
      rw [findD]
      have hg : (arrC names cs).getD j rc0 = (arrC names cs)[j]'(by omega) := by simp [List.getD_eq_getElem?_getD, show j < (arrC names cs).length by omega]
      rw [hg]
      by_cases hji : j = i
      · subst hji
        rw [e, if_pos ⟨rfl, rfl⟩]
      · rw [if_neg, ih (by omega) (by omega)]
        rintro ⟨e1, -⟩
        have hjn : j < names.length := by rw [arrC_len hl] at h2; omega
        obtain ⟨hj', e'⟩ := arrC_get hl (List.getElem?_eq_getElem hjn)
        rw [e'] at e1
        have e1 : names[j] = nm := e1
        have := nodup_get nd (by rw [List.getElem?_eq_getElem hjn, e1]) h
        exact hji this
  exact hpos _ hi (Nat.le_refl _)
theorem alphaC_mk {names : List ByteArray} {cs : List (List Int)} {E : JE} {s : JS} (hx : IxOk names E.ix) (hc : s.cells = cs) (hl : cs.length = names.length) (vs : Loc) : alphaC (mkC names cs vs) = envA E s := by
  unfold mkC
  rw [alphaC_fold]
  funext nm
  unfold alphaC envA
  cases e : E.ix nm with
  | none =>
    unfold cellI
    rw [findD_none (fun c hc => ?_) _ (Nat.le_refl _)]
    · rfl
    · obtain ⟨i, hi, rfl⟩ := List.getElem_of_mem hc
      rintro ⟨e1, -⟩
      have hn : i < names.length := by rw [arrC_len hl] at hi; exact hi
      obtain ⟨_, e2⟩ := arrC_get hl (List.getElem?_eq_getElem hn)
      rw [e2] at e1
      have e1 : names[i] = nm := e1
      have := (hx.iff nm i).2 (by rw [List.getElem?_eq_getElem hn, e1])
      rw [e] at this
      cases this
  | some i =>
    have hn := (hx.iff nm i).1 e
    unfold cellI
    rw [findD_arr hl hx.nd hn, if_neg (by omega), Int.toNat_natCast]
    obtain ⟨hi, e2⟩ := arrC_get hl hn
    rw [show (arrC names cs).getD i rc0 = (arrC names cs)[i] by simp [List.getD_eq_getElem?_getD, hi], e2, hc]
    rfl
/-! ### a variable's place -/
theorem findD_loc (base : List RC) (vs : Loc) {nm : ByteArray} (h : nm ∈ vs.map (·.1)) : ∃ j, ∃ hj : j < vs.length, findD (base ++ locC vs) nm false (base ++ locC vs).length = ((base.length + j : Nat) : Int) ∧ (vs[j]).1 = nm ∧ ∀ k (hk : k < vs.length), j < k → (vs[k]).1 ≠ nm := by
  induction vs using snocRec with
  | nil => simp at h
  | append_singleton r p ih =>
    have e : base ++ locC (r ++ [p]) = (base ++ locC r) ++ [⟨p.1, false, [p.2]⟩] := by simp [locC]
    rw [e, findD_snoc]
    by_cases hp : p.1 = nm
    · refine ⟨r.length, by simp, ?_, by simp [hp], ?_⟩
      · rw [if_pos ⟨hp, rfl⟩]
        simp [locC]
      · intro k hk hlt
        simp at hk
        omega
    · have hr : nm ∈ r.map (·.1) := by
        simp only [List.map_append, List.mem_append, List.map_cons, List.map_nil, List.mem_singleton] at h
        exact h.resolve_right (fun e => hp e.symm)
      obtain ⟨j, hj, h1, h2, h3⟩ := ih hr
      refine ⟨j, by simp; omega, ?_, ?_, ?_⟩
      · rw [if_neg (fun h => hp h.1), h1]
      · rw [List.getElem_append_left hj]; exact h2
      · intro k hk hlt
        rcases Nat.lt_or_ge k r.length with hk2 | hk2
        · rw [List.getElem_append_left hk2]; exact h3 k hk2 hlt
        · simp only [List.length_append, List.length_singleton] at hk
          have : k = r.length := by omega
          subst this
          simpa using hp
theorem lookL_set {vs : Loc} {j : Nat} {nm : ByteArray} {v : Int} (hj : j < vs.length) (h1 : (vs[j]).1 = nm) (h2 : ∀ k (hk : k < vs.length), j < k → (vs[k]).1 ≠ nm) : lookL (vs.set j (nm, v)) = updI (lookL vs) nm v := by
  induction vs using snocRec with
  | nil => simp at hj
  | append_singleton r p ih =>
    simp only [List.length_append, List.length_singleton] at hj
    obtain ⟨pn, pv⟩ := p
    rcases Nat.lt_or_ge j r.length with hlt | hge
    · rw [List.set_append_left _ _ hlt, lookL_snoc, lookL_snoc]
      have hne : pn ≠ nm := by
        have := h2 r.length (by simp) hlt
        simpa using this
      rw [ih hlt (by rw [List.getElem_append_left hlt] at h1; exact h1) (fun k hk hjk => by
        have := h2 k (by simp; omega) hjk
        rwa [List.getElem_append_left hk] at this)]
      funext x
      simp only [updI]
      by_cases hx : x = nm
      · subst hx; simp [Ne.symm hne]
      · simp [hx]
    · have : j = r.length := by omega
      subst this
      have e : (r ++ [(pn, pv)]).set r.length (nm, v) = r ++ [(nm, v)] := by
        rw [List.set_append_right _ _ (Nat.le_refl _)]
        simp
      have hpn : pn = nm := by simpa using h1
      rw [e, lookL_snoc, lookL_snoc, hpn]
      funext x
      simp only [updI]
      split <;> rfl
theorem mem_lookL {vs : Loc} {nm : ByteArray} : lookL vs nm = none ↔ nm ∉ vs.map (·.1) := by
  induction vs using snocRec with
  | nil => simp [lookL]
  | append_singleton r p ih =>
    rw [lookL_snoc]
    simp only [updI, List.map_append, List.mem_append, List.map_cons, List.map_nil, List.mem_singleton, not_or]
    by_cases h : nm = p.1
    · simp [h]
    · simp [h, ih]
theorem arrC_set {names : List ByteArray} {cs : List (List Int)} {i : Nat} {nm : ByteArray} (h : names[i]? = some nm) (l : List Int) : (arrC names cs).set i ⟨nm, true, l⟩ = arrC names (cs.set i l) := by
  apply List.ext_getElem?
  intro j
  simp only [arrC, List.getElem?_set, List.getElem?_zipWith, List.length_zipWith]
  by_cases hj : i = j
  · subst hj
    obtain ⟨hi, e⟩ := List.getElem?_eq_some_iff.1 h
    by_cases hc : i < cs.length
    · simp [hc, hi, e]; omega
    · simp [hc]; omega
  · simp [hj]
end Go.Proofs.YtgmapenlgammfaaGreatDoor

/- The reference's step, index, store. -/
namespace Go.Proofs.YtgmapenlgammfaaGreatDoor
open Go
section
variable {P : Program} {w0 : World} {n : Nat} {L : Env} {M : List HProp} {fn : Func} {R : Ending → List HProp → Prop} {F : List HProp}
attribute [local semireducible] Gives XJ HasAt Ev
theorem XJ.retTCa {t u T q b : Nat} {v : Value} {vs : List Value} [k : AggT P T q] (hr : fn.results = #[.tmp u, .cell t T]) (ht : L.get t = some (.pointer (some ⟨b, 0, none⟩))) (hu : L.get u = some v) (hm : HasAt w0 M b 0 vs) (hn : vs.length = q) (M' : List HProp) (hM : Gives M (M' ++ F)) (hR : R (.returned (.tuple #[v, .agg vs.toArray])) M') : XJ w0 n .ret (endOf P w0 fn R F) L M :=
  fun a w h s m sa => ⟨s.df, .tuple #[v, .agg vs.toArray], by rw [results_tmp_cell hr _ (by rw [Act.getD_eval, Ev.tmp ht n a s]) (run_loadVar_agg hn (hm w h m sa)), Act.getD_eval, Ev.tmp hu n a s], M', h, hR, hM h m, sa⟩
end
section
attribute [local semireducible] HasAt
theorem row_atN {w0 : World} {E sz b n c j r : Nat} {xs : List Value} {x : Value} {M M' : List HProp} (t : Takes M [row E sz (.slice (some ⟨b, 0, none⟩) n c) n xs] M') (hx : xs[j]? = some x) (hr : 0 + j = r) : HasAt w0 M b r [x] := by
  subst hr
  exact HasAt.sub (row_has t) (fun i u hu => by
    rcases i with _ | i
    · simp at hu; subst hu; exact ⟨j, by omega, hx⟩
    · simp at hu)
end
theorem flat_get {sz : Nat} : ∀ {rows : List (List Value)}, (∀ r ∈ rows, r.length = sz) → ∀ {i j : Nat} {r : List Value} {v : Value}, rows[i]? = some r → r[j]? = some v → rows.flatten[i * sz + j]? = some v
  | [], _, i, j, r, v, h, _ => by simp at h
  | q :: rows, hl, 0, j, r, v, h, h2 => by
    simp at h
    subst h
    have hj : j < q.length := (List.getElem?_eq_some_iff.1 h2).1
    rw [List.flatten_cons, Nat.zero_mul, Nat.zero_add, List.getElem?_append_left hj]
    exact h2
  | q :: rows, hl, i + 1, j, r, v, h, h2 => by
    simp at h
    have hq := hl q (by simp)
    rw [List.flatten_cons, List.getElem?_append_right (by rw [hq, Nat.add_mul]; omega)]
    have := flat_get (fun r hr => hl r (by simp [hr])) h h2
    rw [show (i + 1) * sz + j - q.length = i * sz + j by rw [hq, Nat.add_mul]; omega]
    exact this
/-- Cells that are owned. -/
def cellsM (cells : List RC) (us : List Value) (A : Option Addr) (c : Nat) : List HProp := row 54 3 (.slice A cells.length c) cells.length (List.zipWith rcRow cells us).flatten :: innerM us (cells.map RC.l)
theorem zip_three (cells : List RC) (us : List Value) : ∀ r ∈ List.zipWith rcRow cells us, r.length = 3 := by
  intro r hr
  obtain ⟨k, hk, rfl⟩ := List.getElem_of_mem hr
  rw [List.getElem_zipWith]
  rfl
theorem cells_heap {w0 w : World} {h : Frag} {cells : List RC} {us : List Value} {A : Option Addr} {c : Nat} {Z : List HProp} (hl : us.length = cells.length) (mm : star (cellsM cells us A c ++ Z) h) (sa : Go.Proofs.YtgmapenlgammfaaGreatDoor.Sat w0 w h) : CellsR w (.slice A cells.length c) cells := by
  have mm' : star (row 54 3 (.slice A cells.length c) cells.length (List.zipWith rcRow cells us).flatten :: (innerM us (cells.map RC.l) ++ Z)) h := mm
  refine ⟨A, c, us, rfl, row_cap (Takes.here _ _) mm', hl, ?_, ?_⟩
  · rcases Nat.eq_zero_or_pos cells.length with h0 | h0
    · intro i r hr'
      rw [List.getElem?_eq_none (by simp; omega)] at hr'
      cases hr'
    · obtain ⟨bq, c', e⟩ := row_ptrN' (Takes.here _ _) mm' h0
      simp only [Value.slice.injEq] at e
      obtain ⟨rfl, -, -⟩ := e
      exact rowsB_flat (zip_three cells us) (rowN_base' (Takes.here _ _) mm' sa)
  · intro i x u e1 e2
    exact row_ints (Takes.there (innerM_take e2 (by rw [List.getElem?_map, e1]; rfl) Z)) mm' sa
/-- An environment as a value. -/
def envV (A : Option Addr) (n c : Nat) (Ai : Option Addr) (ni ci : Nat) (Ao : Option Addr) (s : JS) (co : Nat) (fuel err : Int) : List Value :=
  [.slice A n c, .slice Ai ni ci, .slice Ao s.out.length co, .int .i64 s.read, .int .i64 s.steps, .int .i64 fuel, .int .i64 err]
theorem envV_one (A : Option Addr) (n c : Nat) (Ai : Option Addr) (ni ci : Nat) (Ao : Option Addr) (s : JS) (co : Nat) (fuel err : Int) : ∀ u ∈ envV A n c Ai ni ci Ao s co fuel err, u.oneCell' = true := by
  intro u hu
  simp only [envV, List.mem_cons, List.not_mem_nil, or_false] at hu
  rcases hu with rfl | rfl | rfl | rfl | rfl | rfl | rfl <;> rfl
def errOf (r : JR) : Int := r.2.getD 0
theorem rstep_spec (w0 : World) (E : JE) (s : JS) (hs : s.steps ≤ 1000000) (A : Option Addr) (n c : Nat) (Ai : Option Addr) (ni ci : Nat) (Ao : Option Addr) (co : Nat) :
    Spec Tryz.prog w0 136 #[.agg (envV A n c Ai ni ci Ao s co E.fuel 0).toArray] [] (Is (.agg (envV A n c Ai ni ci Ao (stepJ E s).1 co E.fuel (errOf (stepJ E s))).toArray)) := by
  refine Spec.enter (args := [_]) Tryz.func136 rfl rfl rfl (fun F => ?_)
  unfold envV
  refine kAutoB ?_
  (apply RL.box; exact kEv; exact rfl; intro b1)
  (apply RL.alloc; exact rfl; exact rfl; intro b2)
  refine kAutoB ?_
  cases h : decide ((s.steps : Int) ≥ E.fuel)
  · have h' := of_decide_eq_false h
    have e : stepJ E s = ({ s with steps := s.steps + 1 }, none) := by unfold stepJ; rw [if_neg h']
    rw [e]
    refine kAutoB ?_
    (apply RL.store; exact kEv; exact kEv; exact kTake; exact rfl; exact rfl; exact rfl)
    refine kAutoB ?_
    (apply RL.storeA; exact kEv; exact kEv; exact kTake; exact rfl; exact rfl; exact rfl)
    refine kAutoB ?_
    rw [i64_up s.steps (by omega)]
    exact XJ.retC rfl rfl (HasAt.pt (Takes.here _ _) atAll) rfl [] (by exact kGives) ⟨rfl, rfl⟩
  · have h' := of_decide_eq_true h
    have e : stepJ E s = (s, some 13) := by unfold stepJ; rw [if_pos h']
    rw [e]
    refine kAutoB ?_
    (apply RL.store; exact kEv; exact kEv; exact kTake; exact rfl; exact rfl; exact rfl)
    refine kAutoB ?_
    (apply RL.storeA; exact kEv; exact kEv; exact kTake; exact rfl; exact rfl; exact rfl)
    refine kAutoB ?_
    exact XJ.retC rfl rfl (HasAt.pt (Takes.here _ _) atAll) rfl [] (by exact kGives) ⟨rfl, rfl⟩
/-- The index of a place. -/
def indexP (ρ : VM) (α : ByteArray → Option (List Int)) (p : Node) : Int × Int := if p.kind = 2 then (0, 0) else resP (evalE ρ α (kid p.kids 0))
theorem rindex_spec (w0 : World) (cells : List RC) (A : Option Addr) (c : Nat) (hC : CellsR w0 (.slice A cells.length c) cells) (hO : CellsOk cells) (p : Node) (pcs : List Value) (hR : NodeR w0 p pcs) (hs : p.size < 4611686018427387904) (hp : isB p 2 = true) (s : JS) (fuel : Int) (Ai : Option Addr) (ni ci : Nat) (Ao : Option Addr) (co : Nat) :
    Spec Tryz.prog w0 139 #[.agg pcs.toArray, .agg (envV A cells.length c Ai ni ci Ao s co fuel 0).toArray] []
      (Is (.tuple #[.int .i32 (indexP (rhoC cells) (alphaC cells) p).1, .agg (envV A cells.length c Ai ni ci Ao s co fuel (indexP (rhoC cells) (alphaC cells) p).2).toArray])) := by
  obtain ⟨Ap, cap, rfl, hcap, hN⟩ := hR.kids
  have hpc := place_cases hp
  obtain ⟨kd, num, nm, kids⟩ := p
  simp only [Node.kind, Node.num, Node.name, Node.kids] at *
  refine Spec.enter (args := [_, _]) Tryz.func139 rfl rfl rfl (fun F => ?_)
  unfold envV
  refine kAutoB ?_
  (apply RL.boxR; exact kEv; exact rfl; intro b2)
  (apply RL.box; exact kEv; exact rfl; intro b3)
  refine kAutoB ?_
  (apply RL.alloc; exact rfl; exact rfl; intro b5)
  refine kAutoB ?_
  rcases hpc with rfl | ⟨rfl, a, rfl, ha⟩
  · refine kAutoB ?_
    refine CJ.env (L' := [(5, .pointer (some ⟨b5, 0, none⟩)), (3, .pointer (some ⟨b3, 0, none⟩)), (2, .pointer (some ⟨b2, 0, none⟩))]) (by exact kEsub) ?_
    (refine CJ.draws mixed 3 [cel b3 _ _] (by exact kGives) (dom_of (by kernel_rfl)) ?_)
    ((first | refine kAjB 0 ?_ | refine kAjS 0 ?_); (first | refine kAjB 1 ?_ | refine kAjS 1 ?_))
    (refine AJ.loud0 (i := 2) (by kernel_rfl) (by kernel_rfl) rfl (by kernel_rfl) (by kernel_rfl) rfl rfl rfl rfl (OpS.storeA (q := 7) kEv kEv (by exact rfl) (envV_one _ _ _ _ _ _ _ s _ _ _) (Takes.here _ _) (by exact Nat.le_refl 7)) ?_ ?_)
    rotate_left
    · rintro _ _ h; exact h.elim
    rintro _ _ rfl
    refine ⟨by exact kGives, ?_⟩
    (refine AJ.done (by kernel_rfl) (by kernel_rfl) rfl (by kernel_rfl) ?_)
    refine kAutoB ?_
    exact XJ.retTCa rfl rfl rfl (HasAt.pt (Takes.here _ _) atAll) rfl [] (by exact kGives) ⟨by simp [indexP, Node.kind]; rfl, rfl⟩
  · have hsz : a.size < (Node.mk 3 num nm [a]).size := Node.size_kid (n := .mk 3 num nm [a]) (by simp [Node.kids])
    obtain ⟨b, o, r, e1, hb, hrl, hr⟩ := hN.at_ 0 (by simp)
    subst e1
    simp only [List.getElem_cons_zero] at hr
    have hrec := rExpr_spec w0 _ cells hC hO a.size a r (Nat.le_refl _) (by omega) hr ha
    have hix : indexP (rhoC cells) (alphaC cells) (.mk 3 num nm [a]) = resP (evalE (rhoC cells) (alphaC cells) a) := by simp [indexP, Node.kind, Node.kids, kid]
    rw [hix]
    generalize resP (evalE (rhoC cells) (alphaC cells) a) = q at hrec
    refine kAutoB ?_
    (refine CJ.draws mixed 12 [rcel b2 _ _, cel b3 _ _] (by exact kGives) (dom_of (by kernel_rfl)) ?_)
    ((first | refine kAjB 0 ?_ | refine kAjS 0 ?_); (first | refine kAjB 1 ?_ | refine kAjS 1 ?_))
    (apply AJ.pur (i := 2); exact rfl; exact rfl; exact rfl; exact rfl; exact rfl; exact rfl; exact rfl; exact rfl; exact rfl; exact OpP.indexAddrC 0 kEv rfl Nat.zero_lt_one (o + 0 * 4) rfl)
    (apply AJ.pur (i := 3); exact rfl; exact rfl; exact rfl; exact rfl; exact rfl; exact rfl; exact rfl; exact rfl; exact rfl; (apply OpP.loadA; exact kEv; exact HasAt.base hb; exact hrl))
    ((first | refine kAjB 4 ?_ | refine kAjS 4 ?_); (first | refine kAjB 5 ?_ | refine kAjS 5 ?_))
    (refine AJ.loud1 (i := 6) (by kernel_rfl) (by kernel_rfl) rfl (by kernel_rfl) (by kernel_rfl) rfl rfl rfl rfl rfl rfl (OpS.call (by exact kEv) inferInstance (by exact kEvl) (Takes.nil _) hrec) ?_ ?_)
    rotate_left
    · rintro _ _ ⟨_, h, _⟩; exact h.elim
    rintro _ _ ⟨N, ⟨rfl, rfl⟩, rfl⟩
    refine ⟨by exact kGives, ?_⟩
    ((first | refine kAjB 7 ?_ | refine kAjS 7 ?_); (first | refine kAjB 8 ?_ | refine kAjS 8 ?_); (first | refine kAjB 9 ?_ | refine kAjS 9 ?_); (first | refine kAjB 10 ?_ | refine kAjS 10 ?_); (first | refine kAjB 11 ?_ | refine kAjS 11 ?_))
    (refine AJ.done (by kernel_rfl) (by kernel_rfl) rfl (by kernel_rfl) ?_)
    refine kAutoB ?_
    (apply RL.store; exact kEv; exact kEv; exact kTake; exact rfl; exact rfl; exact rfl)
    refine kAutoB ?_
    refine CJ.env (L' := [(6, .int .i32 q.1), (5, .pointer (some ⟨b5, 0, none⟩)), (3, .pointer (some ⟨b3, 0, none⟩)), (2, .pointer (some ⟨b2, 0, none⟩))]) (by exact kEsub) ?_
    refine CJ.gives (M' := cel b3 45 (envV A cells.length c Ai ni ci Ao s co fuel q.2) :: cel b5 45 [.slice none 0 0, .slice none 0 0, .slice none 0 0, .int .i64 0, .int .i64 0, .int .i64 0, .int .i64 0] :: F) (by exact kGives) ?_
    (refine CJ.draws mixed 4 [cel b3 _ _] (by exact kGives) (dom_of (by kernel_rfl)) ?_)
    ((first | refine kAjB 0 ?_ | refine kAjS 0 ?_); (first | refine kAjB 1 ?_ | refine kAjS 1 ?_); (first | refine kAjB 2 ?_ | refine kAjS 2 ?_))
    (refine AJ.loud0 (i := 3) (by kernel_rfl) (by kernel_rfl) rfl (by kernel_rfl) (by kernel_rfl) rfl rfl rfl rfl (OpS.storeA (q := 7) kEv kEv (by exact rfl) (envV_one _ _ _ _ _ _ _ s _ _ _) (Takes.there (Takes.here _ _)) (by exact Nat.le_refl 7)) ?_ ?_)
    rotate_left
    · rintro _ _ h; exact h.elim
    rintro _ _ rfl
    refine ⟨by exact kGives, ?_⟩
    (refine AJ.done (by kernel_rfl) (by kernel_rfl) rfl (by kernel_rfl) ?_)
    refine kAutoB ?_
    exact XJ.retTCa rfl rfl rfl (HasAt.pt (Takes.here _ _) atAll) rfl [] (by exact kGives) ⟨rfl, rfl⟩
end Go.Proofs.YtgmapenlgammfaaGreatDoor

/- The reference's store and receive. -/
namespace Go.Proofs.YtgmapenlgammfaaGreatDoor
open Go
/-- A store into a cell. -/
def storeC (cells : List RC) (k : Nat) (i x : Int) : List RC := cells.set k ⟨(cells.getD k rc0).name, (cells.getD k rc0).arr, (cells.getD k rc0).l.set i.toNat x⟩
def inB (cells : List RC) (k : Nat) (i : Int) : Bool := !decide (i < 0) && decide (i < ((cells.getD k rc0).l.length : Int))
theorem storeC_len (cells : List RC) (k : Nat) (i x : Int) : (storeC cells k i x).length = cells.length := by simp [storeC]
theorem storeC_zip {cells : List RC} {us : List Value} {k : Nat} (hk : k < cells.length) (hl : us.length = cells.length) (i x : Int) : List.zipWith rcRow (storeC cells k i x) us = List.zipWith rcRow cells us := by
  apply List.ext_getElem?
  intro j
  simp only [storeC, List.getElem?_zipWith, List.getElem?_set]
  by_cases hj : k = j
  · subst hj
    rw [if_pos rfl, if_pos hk, List.getElem?_eq_getElem hk, List.getElem?_eq_getElem (show k < us.length by omega)]
    simp [rcRow, List.getD_eq_getElem?_getD, hk]
  · rw [if_neg hj]
theorem storeC_l {cells : List RC} {k : Nat} (i x : Int) : (storeC cells k i x).map RC.l = (cells.map RC.l).set k ((cells.getD k rc0).l.set i.toNat x) := by
  simp [storeC, List.map_set]
theorem rstore_spec (w0 : World) (cells : List RC) (hO : CellsOk cells) (us : List Value) (hus : us.length = cells.length) (A : Option Addr) (c : Nat) (p : Node) (pcs : List Value) (hR : NodeR w0 p pcs) (k : Nat) (hk : findD cells p.name (p.kind == 3) cells.length = (k : Int)) (hkl : k < cells.length) (i x : Int) (hi : I32 i) (s : JS) (fuel : Int) (Ai : Option Addr) (ni ci : Nat) (Ao : Option Addr) (co : Nat) :
    Spec Tryz.prog w0 141 #[.agg pcs.toArray, .int .i32 i, .int .i32 x, .agg (envV A cells.length c Ai ni ci Ao s co fuel 0).toArray] (cellsM cells us A c)
      (Ret (fun v N => v = .agg (envV A cells.length c Ai ni ci Ao s co fuel (if inB cells k i then 0 else 11)).toArray ∧ N = cellsM (if inB cells k i then storeC cells k i x else cells) us A c) noP) := by
  obtain ⟨Ap, cap, rfl, hcap, -⟩ := hR.kids
  have hi' := hi
  unfold I32 at hi'
  have hg : cells.getD k rc0 = cells[k] := by simp [List.getD_eq_getElem?_getD, hkl]
  have hll := (hO.each _ (List.getElem_mem hkl)).2.1
  refine Spec.enter (args := [_, _, _, _]) Tryz.func141 rfl rfl rfl (fun F => ?_)
  unfold envV
  refine kAutoB ?_
  (apply RL.boxR; exact kEv; exact rfl; intro b4)
  (apply RL.box; exact kEv; exact rfl; intro b7)
  refine kAutoB ?_
  (apply RL.alloc; exact rfl; exact rfl; intro b8)
  refine kAutoB ?_
  (apply RL.callAll; exact kEv; exact inferInstance; exact kEvl; exact rfl; exact (fun w h mm sa => Find_spec w _ cells (cells_heap (Z := F) hus mm.tail.tail.tail sa) hO.len p.name (p.kind == 3)); exact rfl)
  rintro _ _ ⟨rfl, rfl⟩
  rw [hk]
  refine kAutoB ?_
  cases hneg : decide (i < 0)
  case true =>
    have hb : inB cells k i = false := by simp [inB, hneg]
    rw [hb]
    refine kAutoB ?_
    (apply RL.store; exact kEv; exact kEv; exact kTake; exact rfl; exact rfl; exact rfl)
    refine kAutoB ?_
    (apply RL.storeA; exact kEv; exact kEv; exact kTake; exact rfl; exact rfl; exact rfl)
    refine kAutoB ?_
    refine XJ.retC rfl rfl (HasAt.pt (Takes.here _ _) atAll) rfl (cellsM cells us A c) (Gives.drop (Gives.drop (Gives.drop (Gives.refl _)))) ⟨rfl, rfl⟩
  have hneg' := of_decide_eq_false hneg
  have hwi : IntKind.i64.wrap i = i := wrap64 ⟨by omega, by omega⟩
  have huk : us[k]? = some (us[k]'(by omega)) := List.getElem?_eq_getElem (by omega)
  have hlk : (cells.map RC.l)[k]? = some cells[k].l := by simp [hkl]
  have hz : (List.zipWith rcRow cells us)[k]? = some (rcRow cells[k] (us[k]'(by omega))) := by
    rw [List.getElem?_eq_getElem (by simp; omega), List.getElem_zipWith]
  have hfl := flat_get (zip_three cells us) (j := 2) hz rfl
  generalize us[k]'(by omega) = uk at huk hz hfl
  unfold cellsM
  refine RL.factS (p := (∃ b c', Value.slice A cells.length c = .slice (some ⟨b, 0, none⟩) cells.length c') ∧ ∃ A' c', uk = .slice A' cells[k].l.length c') (fun w h mm sa => ⟨row_ptrN' (Takes.there (Takes.there (Takes.there (Takes.here _ _)))) mm (by omega), row_slice (Takes.there (Takes.there (Takes.there (Takes.there (innerM_take huk hlk F))))) mm⟩) ?_
  rintro ⟨⟨bA, cA, eA⟩, Ak, ck, rfl⟩
  simp only [Value.slice.injEq] at eA
  obtain ⟨rfl, -, -⟩ := eA
  refine kAutoB ?_
  rw [hwi]
  apply RL.pur; (apply OpP.indexAddr; exact kEv; exact kEv; exact hkl); exact rfl
  refine kAutoB ?_
  apply RL.pur; (apply OpP.load; exact kEv; exact row_atN (Takes.there (Takes.there (Takes.there (Takes.here _ _)))) hfl (by omega)); exact rfl
  refine kAutoB ?_
  cases hge : decide (i ≥ (cells[k].l.length : Int))
  case true =>
    have hge' := of_decide_eq_true hge
    have hb : inB cells k i = false := by
      unfold inB
      rw [hg, decide_eq_false (show ¬ i < (cells[k].l.length : Int) by omega), Bool.and_false]
    rw [hb]
    refine kAutoB ?_
    (apply RL.store; exact kEv; exact kEv; exact kTake; exact rfl; exact rfl; exact rfl)
    refine kAutoB ?_
    (apply RL.storeA; exact kEv; exact kEv; exact kTake; exact rfl; exact rfl; exact rfl)
    refine kAutoB ?_
    refine XJ.retC rfl rfl (HasAt.pt (Takes.here _ _) atAll) rfl (cellsM cells us (some ⟨bA, 0, none⟩) c) (Gives.drop (Gives.drop (Gives.drop (Gives.refl _)))) ⟨rfl, rfl⟩
  have hge' := of_decide_eq_false hge
  have hb : inB cells k i = true := by
    unfold inB
    rw [hg, hneg, decide_eq_true (show i < (cells[k].l.length : Int) by omega)]
    rfl
  rw [hb]
  obtain ⟨j, rfl⟩ : ∃ j : Nat, i = (j : Int) := ⟨i.toNat, by omega⟩
  have hjl : j < cells[k].l.length := by omega
  refine kAutoB ?_
  apply RL.pur; (apply OpP.indexAddr; exact kEv; exact kEv; exact hkl); exact rfl
  refine kAutoB ?_
  apply RL.pur; (apply OpP.load; exact kEv; exact row_atN (Takes.there (Takes.there (Takes.there (Takes.here _ _)))) hfl (by omega)); exact rfl
  refine kAutoB ?_
  refine RL.gives (Takes.gives (Takes.there (Takes.there (Takes.there (Takes.there (innerM_take huk hlk F))))) (Gives.refl _)) ?_
  refine RL.factS (p := ∃ b c', Value.slice Ak cells[k].l.length ck = .slice (some ⟨b, 0, none⟩) cells[k].l.length c') (fun w h mm sa => row_ptr (Takes.here _ _) mm (by omega)) ?_
  rintro ⟨bK, cK, eK⟩
  simp only [Value.slice.injEq] at eK
  obtain ⟨rfl, -, -⟩ := eK
  apply RL.pur; (apply OpP.indexAddr; exact kEv; exact kEv; exact hjl); exact rfl
  refine RL.rowSet (i := 0 + j * 1) (v := .int .i32 x) kEv kEv rfl rfl (Takes.here _ _) (by omega) ?_
  rw [show 0 + j * 1 = j by omega]
  have hrow : row 21 1 (.slice (some ⟨bK, 0, none⟩) cells[k].l.length ck) cells[k].l.length ((cells[k].l.map intV).set j (.int .i32 x)) = rowI (.slice (some ⟨bK, 0, none⟩) cells[k].l.length ck) (cells[k].l.set j x) := by
    unfold rowI
    rw [List.length_set, List.map_set]
    rfl
  rw [hrow]
  refine RL.gives (M' := cel b8 45 [.slice none 0 0, .slice none 0 0, .slice none 0 0, .int .i64 0, .int .i64 0, .int .i64 0, .int .i64 0] :: cel b7 45 (envV (some ⟨bA, 0, none⟩) cells.length c Ai ni ci Ao s co fuel 0) :: (cellsM (storeC cells k j x) us (some ⟨bA, 0, none⟩) c ++ F)) (by
    unfold cellsM
    rw [storeC_len, storeC_zip hkl hus, storeC_l, hg, Int.toNat_natCast]
    exact Gives.cons (Takes.there (Takes.here _ _)) (Gives.cons (Takes.there (Takes.here _ _)) (Gives.cons (Takes.there (Takes.there (Takes.here _ _))) (Gives.trans (Gives.cons (Takes.here _ _) (Gives.drop (Gives.refl _))) (innerM_put _ huk (by simpa using hkl) F))))) ?_
  refine kAutoB ?_
  refine RL.s0 (OpS.storeA (q := 7) kEv kEv (by exact rfl) (envV_one _ _ _ _ _ _ _ s _ _ _) (Takes.here _ _) (by exact Nat.le_refl 7)) ?_ (fun _ _ h => h.elim)
  rintro _ _ rfl
  refine kAutoB ?_
  refine XJ.retC rfl rfl (HasAt.pt (Takes.here _ _) atAll) rfl (cellsM (storeC cells k j x) us (some ⟨bA, 0, none⟩) c) (Gives.drop (Gives.drop (Gives.refl _))) ⟨rfl, rfl⟩
theorem rreceive_spec (w0 : World) (cells : List RC) (hO : CellsOk cells) (us : List Value) (hus : us.length = cells.length) (A : Option Addr) (c : Nat) (num : Int) (nm : ByteArray) (p : Node) (ncs : List Value) (hR : NodeR w0 (.mk 44 num nm [p]) ncs) (k : Nat) (hk : findD cells p.name (p.kind == 3) cells.length = (k : Int)) (hkl : k < cells.length) (i : Int) (hi : I32 i) (s : JS) (hrd : s.read ≤ 1000000) (fuel : Int) (Ai : Option Addr) (ci : Nat) (inp : List Int) (hin : IntsR w0 (.slice Ai inp.length ci) inp) (Ao : Option Addr) (co : Nat) :
    Spec Tryz.prog w0 140 #[.agg ncs.toArray, .int .i32 i, .agg (envV A cells.length c Ai inp.length ci Ao s co fuel 0).toArray] (cellsM cells us A c)
      (Ret (fun v N => v = .agg (envV A cells.length c Ai inp.length ci Ao (if inB cells k i then { s with read := s.read + 1 } else s) co fuel (if inB cells k i then 0 else 11)).toArray ∧ N = cellsM (if inB cells k i then storeC cells k i (inp.getD s.read 0) else cells) us A c) noP) := by
  obtain ⟨Ap, cap, rfl, hcap, hN⟩ := hR.kids
  simp only [Node.kind, Node.num, Node.name, Node.kids] at hN
  obtain ⟨b, o, r, e1, hb, hrl, hr⟩ := hN.at_ 0 (by simp)
  subst e1
  simp only [List.getElem_cons_zero] at hr
  obtain ⟨Ai', ci', ei, hci, hri⟩ := hin
  simp only [Value.slice.injEq, true_and] at ei
  obtain ⟨rfl, rfl⟩ := ei
  have hst := rstore_spec w0 cells hO us hus A c p r hr k hk hkl i (inp.getD s.read 0) hi s fuel Ai inp.length ci Ao co
  refine Spec.enter (args := [_, _, _]) Tryz.func140 rfl rfl rfl (fun F => ?_)
  unfold envV
  refine kAutoB ?_
  (apply RL.boxR; exact kEv; exact rfl; intro b3)
  (apply RL.box; exact kEv; exact rfl; intro b5)
  refine kAutoB ?_
  (apply RL.alloc; exact rfl; exact rfl; intro b6)
  refine kAutoB ?_
  cases hlt : decide ((s.read : Int) < (inp.length : Int))
  · have hlt' := of_decide_eq_false hlt
    have hx : inp.getD s.read 0 = 0 := by
      rw [List.getD_eq_getElem?_getD, List.getElem?_eq_none (by omega)]
      rfl
    rw [hx] at hst ⊢
    refine kAutoB ?_
    (refine CJ.draws mixed 8 [rcel b3 _ _, cel b5 _ _] (by exact kGives) (dom_of (by kernel_rfl)) ?_)
    ((first | refine kAjB 0 ?_ | refine kAjS 0 ?_); (first | refine kAjB 1 ?_ | refine kAjS 1 ?_))
    (apply AJ.pur (i := 2); exact rfl; exact rfl; exact rfl; exact rfl; exact rfl; exact rfl; exact rfl; exact rfl; exact rfl; exact OpP.indexAddrC 0 kEv rfl Nat.zero_lt_one (o + 0 * 4) rfl)
    (apply AJ.pur (i := 3); exact rfl; exact rfl; exact rfl; exact rfl; exact rfl; exact rfl; exact rfl; exact rfl; exact rfl; (apply OpP.loadA; exact kEv; exact HasAt.base hb; exact hrl))
    ((first | refine kAjB 4 ?_ | refine kAjS 4 ?_); (first | refine kAjB 5 ?_ | refine kAjS 5 ?_); (first | refine kAjB 6 ?_ | refine kAjS 6 ?_))
    (refine AJ.loud1 (i := 7) (by kernel_rfl) (by kernel_rfl) rfl (by kernel_rfl) (by kernel_rfl) rfl rfl rfl rfl rfl rfl (OpS.call (by exact kEv) inferInstance (by exact kEvl) (Takes.there1 (Takes.there1 (Takes.there1 (Takes.app _ _)))) hst) ?_ ?_)
    rotate_left
    · rintro _ _ ⟨_, h, _⟩; exact h.elim
    rintro _ _ ⟨N, ⟨rfl, rfl⟩, rfl⟩
    refine ⟨Gives.skipApp (by exact kGives), ?_⟩
    (refine AJ.tail (by kernel_rfl) (by kernel_rfl) rfl (by kernel_rfl) (by kernel_rfl) (by kernel_rfl) ?_)
    cases hb : inB cells k i
    · simp only [Bool.false_eq_true, if_false]
      refine RL.gives (M' := cel b5 45 (envV A cells.length c Ai inp.length ci Ao s co fuel 0) :: cel b6 45 [.slice none 0 0, .slice none 0 0, .slice none 0 0, .int .i64 0, .int .i64 0, .int .i64 0, .int .i64 0] :: (cellsM cells us A c ++ F)) (Gives.cons (Takes.appR _ (Takes.there (Takes.here _ _))) (Gives.cons (Takes.appR _ (Takes.here _ _)) (Takes.drop2 _ _ _))) ?_
      refine RL.s0 (OpS.storeA (q := 7) kEv kEv (by exact rfl) (envV_one _ _ _ _ _ _ _ s _ _ _) (Takes.here _ _) (by exact Nat.le_refl 7)) ?_ (fun _ _ h => h.elim)
      rintro _ _ rfl
      refine kAutoB ?_
      refine RL.s0 (OpS.storeA (q := 7) kEv kEv (by exact rfl) (envV_one _ _ _ _ _ _ _ s _ _ _) (Takes.there (Takes.here _ _)) (by exact Nat.le_refl 7)) ?_ (fun _ _ h => h.elim)
      rintro _ _ rfl
      refine kAutoB ?_
      exact XJ.retC rfl rfl (HasAt.pt (Takes.here _ _) atAll) rfl (cellsM cells us A c) (Gives.drop (Gives.drop (Gives.refl _))) ⟨rfl, rfl⟩
    · simp only [if_true]
      refine RL.gives (M' := cel b5 45 (envV A cells.length c Ai inp.length ci Ao s co fuel 0) :: cel b6 45 [.slice none 0 0, .slice none 0 0, .slice none 0 0, .int .i64 0, .int .i64 0, .int .i64 0, .int .i64 0] :: (cellsM (storeC cells k i 0) us A c ++ F)) (Gives.cons (Takes.appR _ (Takes.there (Takes.here _ _))) (Gives.cons (Takes.appR _ (Takes.here _ _)) (Takes.drop2 _ _ _))) ?_
      refine RL.s0 (OpS.storeA (q := 7) kEv kEv (by exact rfl) (envV_one _ _ _ _ _ _ _ s _ _ _) (Takes.here _ _) (by exact Nat.le_refl 7)) ?_ (fun _ _ h => h.elim)
      rintro _ _ rfl
      refine kAutoB ?_
      (apply RL.store; exact kEv; exact kEv; exact kTake; exact rfl; exact rfl; exact rfl)
      refine kAutoB ?_
      rw [i64_up s.read (by omega)]
      refine RL.s0 (OpS.storeA (q := 7) kEv kEv (by exact rfl) (envV_one _ _ _ _ _ _ _ { s with read := s.read + 1 } _ _ _) (Takes.there (Takes.here _ _)) (by exact Nat.le_refl 7)) ?_ (fun _ _ h => h.elim)
      rintro _ _ rfl
      refine kAutoB ?_
      exact XJ.retC rfl rfl (HasAt.pt (Takes.here _ _) atAll) rfl (cellsM (storeC cells k i 0) us A c) (Gives.drop (Gives.drop (Gives.refl _))) ⟨rfl, rfl⟩
  · have hlt' : s.read < inp.length := by have := of_decide_eq_true hlt; omega
    obtain ⟨b', o', e', -, hb'⟩ := hri.at_ s.read (by simpa using hlt')
    subst e'
    simp only [List.getElem_map] at hb'
    have hx : inp.getD s.read 0 = inp[s.read] := by simp [List.getD_eq_getElem?_getD, hlt']
    rw [hx] at hst ⊢
    refine kAutoB ?_
    apply RL.pur; (apply OpP.indexAddr; exact kEv; exact kEv; exact hlt'); exact rfl
    apply RL.pur; (apply OpP.load; exact kEv; exact HasAt.base hb'); exact rfl
    refine kAutoB ?_
    (refine CJ.draws mixed 8 [rcel b3 _ _, cel b5 _ _] (by exact kGives) (dom_of (by kernel_rfl)) ?_)
    ((first | refine kAjB 0 ?_ | refine kAjS 0 ?_); (first | refine kAjB 1 ?_ | refine kAjS 1 ?_))
    (apply AJ.pur (i := 2); exact rfl; exact rfl; exact rfl; exact rfl; exact rfl; exact rfl; exact rfl; exact rfl; exact rfl; exact OpP.indexAddrC 0 kEv rfl Nat.zero_lt_one (o + 0 * 4) rfl)
    (apply AJ.pur (i := 3); exact rfl; exact rfl; exact rfl; exact rfl; exact rfl; exact rfl; exact rfl; exact rfl; exact rfl; (apply OpP.loadA; exact kEv; exact HasAt.base hb; exact hrl))
    ((first | refine kAjB 4 ?_ | refine kAjS 4 ?_); (first | refine kAjB 5 ?_ | refine kAjS 5 ?_); (first | refine kAjB 6 ?_ | refine kAjS 6 ?_))
    (refine AJ.loud1 (i := 7) (by kernel_rfl) (by kernel_rfl) rfl (by kernel_rfl) (by kernel_rfl) rfl rfl rfl rfl rfl rfl (OpS.call (by exact kEv) inferInstance (by exact kEvl) (Takes.there1 (Takes.there1 (Takes.there1 (Takes.app _ _)))) hst) ?_ ?_)
    rotate_left
    · rintro _ _ ⟨_, h, _⟩; exact h.elim
    rintro _ _ ⟨N, ⟨rfl, rfl⟩, rfl⟩
    refine ⟨Gives.skipApp (by exact kGives), ?_⟩
    (refine AJ.tail (by kernel_rfl) (by kernel_rfl) rfl (by kernel_rfl) (by kernel_rfl) (by kernel_rfl) ?_)
    cases hb : inB cells k i
    · simp only [Bool.false_eq_true, if_false]
      refine RL.gives (M' := cel b5 45 (envV A cells.length c (some ⟨b', o', none⟩) inp.length ci Ao s co fuel 0) :: cel b6 45 [.slice none 0 0, .slice none 0 0, .slice none 0 0, .int .i64 0, .int .i64 0, .int .i64 0, .int .i64 0] :: (cellsM cells us A c ++ F)) (Gives.cons (Takes.appR _ (Takes.there (Takes.here _ _))) (Gives.cons (Takes.appR _ (Takes.here _ _)) (Takes.drop2 _ _ _))) ?_
      refine RL.s0 (OpS.storeA (q := 7) kEv kEv (by exact rfl) (envV_one _ _ _ _ _ _ _ s _ _ _) (Takes.here _ _) (by exact Nat.le_refl 7)) ?_ (fun _ _ h => h.elim)
      rintro _ _ rfl
      refine kAutoB ?_
      refine RL.s0 (OpS.storeA (q := 7) kEv kEv (by exact rfl) (envV_one _ _ _ _ _ _ _ s _ _ _) (Takes.there (Takes.here _ _)) (by exact Nat.le_refl 7)) ?_ (fun _ _ h => h.elim)
      rintro _ _ rfl
      refine kAutoB ?_
      exact XJ.retC rfl rfl (HasAt.pt (Takes.here _ _) atAll) rfl (cellsM cells us A c) (Gives.drop (Gives.drop (Gives.refl _))) ⟨rfl, rfl⟩
    · simp only [if_true]
      refine RL.gives (M' := cel b5 45 (envV A cells.length c (some ⟨b', o', none⟩) inp.length ci Ao s co fuel 0) :: cel b6 45 [.slice none 0 0, .slice none 0 0, .slice none 0 0, .int .i64 0, .int .i64 0, .int .i64 0, .int .i64 0] :: (cellsM (storeC cells k i (inp[s.read])) us A c ++ F)) (Gives.cons (Takes.appR _ (Takes.there (Takes.here _ _))) (Gives.cons (Takes.appR _ (Takes.here _ _)) (Takes.drop2 _ _ _))) ?_
      refine RL.s0 (OpS.storeA (q := 7) kEv kEv (by exact rfl) (envV_one _ _ _ _ _ _ _ s _ _ _) (Takes.here _ _) (by exact Nat.le_refl 7)) ?_ (fun _ _ h => h.elim)
      rintro _ _ rfl
      refine kAutoB ?_
      (apply RL.store; exact kEv; exact kEv; exact kTake; exact rfl; exact rfl; exact rfl)
      refine kAutoB ?_
      rw [i64_up s.read (by omega)]
      refine RL.s0 (OpS.storeA (q := 7) kEv kEv (by exact rfl) (envV_one _ _ _ _ _ _ _ { s with read := s.read + 1 } _ _ _) (Takes.there (Takes.here _ _)) (by exact Nat.le_refl 7)) ?_ (fun _ _ h => h.elim)
      rintro _ _ rfl
      refine kAutoB ?_
      exact XJ.retC rfl rfl (HasAt.pt (Takes.here _ _) atAll) rfl (cellsM (storeC cells k i (inp[s.read])) us A c) (Gives.drop (Gives.drop (Gives.refl _))) ⟨rfl, rfl⟩
end Go.Proofs.YtgmapenlgammfaaGreatDoor

/- The reference's statements: what is to be shown; blocks. -/
namespace Go.Proofs.YtgmapenlgammfaaGreatDoor
open Go
/-! ### errors are not 0 -/
theorem wsE_ne0 {C : Ctx} {S : Scope} {ρ : VM} {α : ByteArray → Option (List Int)} {n : Node} (h : WsE C S n) : ∀ e, evalE ρ α n = .error e → e ≠ 0 := by
  induction h with
  | num n s => intro e he; rw [evalE] at he; simp [evalOp] at he
  | var n s =>
    intro e he
    rw [evalE] at he
    simp only [evalOp] at he
    rw [if_neg (by decide), if_pos trivial] at he
    split at he
    · injection he with he; omega
    · cases he
  | item n s a h1 h2 ih =>
    intro e he
    rw [evalE] at he
    simp only [evalOp, evalL, List.getD_cons_zero] at he
    rw [if_neg (by decide), if_neg (by decide), if_pos trivial] at he
    split at he
    · injection he with he; omega
    · split at he
      · rename_i e' h'; injection he with he; subst he; exact ih _ h'
      · split at he
        · cases he
        · injection he with he; omega
  | un k n s a hk h2 ih =>
    intro e he
    rw [evalE] at he
    simp only [evalOp, evalL, List.getD_cons_zero] at he
    rw [if_neg (by omega), if_neg (by omega), if_neg (by omega), if_pos hk] at he
    split at he
    · rename_i e' h'; injection he with he; subst he; exact ih _ h'
    · split at he
      · cases he
      · rename_i h'; injection he with he; subst he; exact h'
  | bin k n s a b h6 h23 h1 h2 ih1 ih2 =>
    intro e he
    rw [evalE] at he
    simp only [evalOp, evalL, List.getD_cons_zero, List.getD_cons_succ] at he
    rw [if_neg (by omega), if_neg (by omega), if_neg (by omega), if_neg (by omega)] at he
    split at he
    · rename_i e' h'; injection he with he; subst he; exact ih1 _ h'
    · split at he
      · rename_i e' h'; injection he with he; subst he; exact ih2 _ h'
      · split at he
        · cases he
        · rename_i h'; injection he with he; subst he; exact h'
def ErrN (f : JS → JR) : Prop := ∀ s, (f s).2 ≠ some 0
theorem ErrN.bind {f g : JS → JR} (hf : ErrN f) (hg : ErrN g) : ErrN (fun s => bindJ (f s) g) := fun s => by
  simp only
  cases e : (f s).2 with
  | none => rw [bindJ_none e]; exact hg _
  | some x => rw [bindJ_some e]; exact fun h => hf s (e.trans h)
theorem ErrN.step (E : JE) : ErrN (stepJ E) := fun s => by
  unfold stepJ
  split <;> simp
theorem ErrN.seq {E : JE} {l : List Node} (h : ∀ m ∈ l, ErrN (execN E m)) : ErrN (seqJ (l.map (execN E))) := by
  induction l with
  | nil => exact fun s => by simp [seqJ]
  | cons m r ih => exact ErrN.bind (h m (by simp)) (ih fun m hm => h m (by simp [hm]))
theorem ErrN.if_ {C : Ctx} {S : Scope} {E : JE} {c : Node} {a b : JS → JR} (hc : WsE C S c) (ha : ErrN a) (hb : ErrN b) : ErrN (ifJ E c a b) := fun s => by
  unfold ifJ
  split
  · rename_i e he; exact fun h => wsE_ne0 hc e he (by injection h)
  · split
    · exact hb s
    · exact ha s
theorem wsP_kid {C : Ctx} {S : Scope} {p : Node} (hp : WsP C S p) : p.kind = 2 ∨ (p.kind = 3 ∧ WsE C S (kid p.kids 0)) := by
  cases hp with
  | var => exact .inl rfl
  | item n s a h1 h2 => exact .inr ⟨rfl, h2⟩
theorem ErrN.store {C : Ctx} {S : Scope} {E : JE} {p : Node} {early : Bool} {g : JS → JS × Except Int Int} (hp : WsP C S p) (hg : ∀ s e, (g s).2 = .error e → e ≠ 0) : ErrN (storeJ E p early g) := fun s => by
  have hgs := hg s
  unfold storeJ
  generalize g s = r at *
  obtain ⟨s1, x⟩ := r
  simp only at hgs
  by_cases hk : p.kind = 2
  · rw [if_pos hk]
    cases x with
    | error e => exact fun h => hgs e rfl (by injection h)
    | ok v => simp
  · rw [if_neg hk]
    have hke := (wsP_kid hp).resolve_left hk
    cases E.ix p.name with
    | none => simp
    | some a =>
      simp only
      cases he : evJ E s (kid p.kids 0) with
      | error e => exact fun h => wsE_ne0 hke.2 e he (by injection h)
      | ok i =>
        simp only
        cases early
        · simp only [Bool.false_eq_true, if_false]
          split
          · cases x with
            | error e => exact fun h => hgs e rfl (by injection h)
            | ok v => simp
          · simp
        · simp only [if_true]
          cases x with
          | error e => exact fun h => hgs e rfl (by injection h)
          | ok v =>
            simp only
            split <;> simp
theorem exec_ne0 {C : Ctx} {E : JE} {S : Scope} {n : Node} (hw : WsS C S n) : ErrN (execN E n) := by
  induction hw with
  | assign S n s p e hp he => rw [funext (exec_assign E n s p e)]; exact (ErrN.step E).bind (.store hp fun s e' h => wsE_ne0 he e' h)
  | cond S n s c na sa la nb sb lb hc ha hb iha ihb => rw [funext (exec_if E n s c na sa la nb sb lb)]; exact (ErrN.step E).bind (.if_ hc (.seq iha) (.seq ihb))
  | count S n s nb sb l h1 h2 h3 h4 h5 h6 hl ih =>
    rw [funext (exec_for E n s nb sb l)]
    refine (ErrN.step E).bind ?_
    have hb : ErrN (seqJ (l.map (execN E))) := .seq ih
    generalize n.toNat = k, (0 : Int) = i
    induction k generalizing i with
    | zero => exact fun t => by simp [forJ]
    | succ k ihk => exact (ErrN.step E).bind (ErrN.bind (f := fun t => seqJ (l.map (execN E)) (setVar t s (IntKind.i32.wrap i))) (fun t => hb _) (ihk (i + 1)))
  | while_ S n s c nb sb l h1 h2 hc hl ih =>
    rw [funext (exec_while E n s c nb sb l)]
    refine (ErrN.step E).bind ?_
    have hb : ErrN (seqJ (l.map (execN E))) := .seq ih
    generalize n.toNat = k
    induction k with
    | zero => exact (ErrN.step E).bind (.if_ hc (fun s => by simp) (fun s => by simp [noJ]))
    | succ k ihk => exact (ErrN.step E).bind (.if_ hc (hb.bind ihk) (fun s => by simp [noJ]))
  | inp S n s p h1 h2 hp => rw [funext (exec_in E n s p)]; exact (ErrN.step E).bind (.store hp fun s e' h => by cases h)
  | out S n s e h1 h2 he =>
    rw [funext (exec_out E n s e)]
    refine (ErrN.step E).bind fun t => ?_
    unfold outJ
    split
    · rename_i e' he'; exact fun h => wsE_ne0 he e' he' (by injection h)
    · simp
  | lock S n s nb sb l h1 h2 hl ih => rw [funext (exec_lock E n s nb sb l)]; exact (ErrN.step E).bind (.seq ih)

/-! ### states of the reference -/
structure RSt where
  r : JR
  vs : Loc
  us : List Value
  A : Option Addr
  c : Nat
  Ao : Option Addr
  co : Nat
/-- What does not change in a job. -/
structure RPar where
  names : List ByteArray
  Ai : Option Addr
  ni : Nat
  ci : Nat
  fuel : Int
def RSt.cells (R : RPar) (t : RSt) : List RC := mkC R.names t.r.1.cells t.vs
def RSt.v (R : RPar) (t : RSt) : List Value := envV t.A (t.cells R).length t.c R.Ai R.ni R.ci t.Ao t.r.1 t.co R.fuel (errOf t.r)
def RSt.m (R : RPar) (t : RSt) : List HProp := row 106 2 (.slice t.Ao t.r.1.out.length t.co) t.r.1.out.length (outCells t.r.1.out) :: cellsM (t.cells R) t.us t.A t.c
structure RStOk (R : RPar) (vs0 : Loc) (t : RSt) : Prop where
  us : t.us.length = (t.cells R).length
  nm : t.vs.map (·.1) = vs0.map (·.1)
  v32 : ∀ p ∈ t.vs, I32 p.2
  vars : t.r.2 = none → lookL t.vs = t.r.1.vars
def RRes (R : RPar) (r : JR) (vs0 : Loc) : Value → List HProp → Prop := fun v N => ∃ t : RSt, t.r = r ∧ RStOk R vs0 t ∧ v = .agg (t.v R).toArray ∧ N = t.m R
structure RefF (w0 : World) (R : RPar) (E : JE) (C : Ctx) (lens : List Nat) : Prop where
  ix : IxOk R.names E.ix
  inp : IntsR w0 (.slice R.Ai R.ni R.ci) E.inp
  ni : R.ni = E.inp.length
  i32 : ∀ x ∈ E.inp, I32 x
  fu : R.fuel = E.fuel
  fuel : E.fuel ≤ 1000000
  len : R.names.length ≤ 100
  ll : lens.length = R.names.length
  small : ∀ k ∈ lens, k ≤ 1000000
  ctx : ∀ nm, C.arrays nm = true ∨ C.shared nm = true → nm ∈ R.names
/-- A state in which a statement may start. -/
structure RefI (R : RPar) (E : JE) (C : Ctx) (lens : List Nat) (S : Scope) (t : RSt) : Prop where
  nn : t.r.2 = none
  ok : OKJ E lens t.r.1
  us : t.us.length = (t.cells R).length
  v32 : ∀ p ∈ t.vs, I32 p.2
  vars : lookL t.vs = t.r.1.vars
  sc : ∀ j, S.scalars j = true ↔ j ∈ t.vs.map (·.1)
  lp : ∀ j, S.scalars j = true → C.vars j = true ∨ S.loops j = true
section
variable {w0 : World} {R : RPar} {E : JE} {C : Ctx} {lens : List Nat} {S : Scope} {t : RSt}
theorem RefI.cl (F : RefF w0 R E C lens) (h : RefI R E C lens S t) : t.r.1.cells.length = R.names.length := by rw [h.ok.len, F.ll]
theorem RefI.clen (F : RefF w0 R E C lens) (h : RefI R E C lens S t) : (t.cells R).length = R.names.length + t.vs.length := mkC_len (h.cl F)
theorem RefI.rho (h : RefI R E C lens S t) : rhoC (t.cells R) = t.r.1.vars := by rw [← h.vars]; exact rhoC_mk _ _ _
theorem RefI.alpha (F : RefF w0 R E C lens) (h : RefI R E C lens S t) : alphaC (t.cells R) = envA E t.r.1 := alphaC_mk F.ix rfl (h.cl F) _
theorem RefI.ev (F : RefF w0 R E C lens) (h : RefI R E C lens S t) (n : Node) : evalE (rhoC (t.cells R)) (alphaC (t.cells R)) n = evJ E t.r.1 n := by rw [h.rho, h.alpha F]; rfl
theorem RefI.cok (F : RefF w0 R E C lens) (h : RefI R E C lens S t) (hv : t.vs.length ≤ 10000) : CellsOk (t.cells R) := by
  refine ⟨by rw [h.clen F]; have := F.len; omega, ?_⟩
  intro c hc
  unfold RSt.cells mkC at hc
  rcases List.mem_append.1 hc with hc | hc
  · obtain ⟨i, hi, rfl⟩ := List.getElem_of_mem hc
    have hn : i < R.names.length := by rw [arrC_len (h.cl F)] at hi; exact hi
    obtain ⟨_, e⟩ := arrC_get (h.cl F) (List.getElem?_eq_getElem hn)
    rw [e]
    have hcl := h.cl F
    have hg : t.r.1.cells.getD i [] = t.r.1.cells[i] := by simp [List.getD_eq_getElem?_getD, show i < t.r.1.cells.length by omega]
    refine ⟨?_, ?_, fun h => by cases h⟩
    · simp only [hg]; exact h.ok.cells _ (List.getElem_mem _)
    · simp only [hg]
      refine F.small _ ?_
      rw [← h.ok.lens]
      exact List.mem_map_of_mem (List.getElem_mem _)
  · obtain ⟨p, hp, rfl⟩ := List.mem_map.1 hc
    exact ⟨fun x hx => by simp at hx; subst hx; exact h.v32 p hp, by simp, fun _ => by simp⟩
theorem RefI.st (F : RefF w0 R E C lens) (h : RefI R E C lens S t) : t.r.1.steps ≤ 1000000 ∧ t.r.1.read ≤ 1000000 ∧ t.r.1.out.length ≤ 1000000 := by
  have := h.ok.steps
  have := h.ok.read
  have := h.ok.out
  have := F.fuel
  omega
end
/-- A statement, or a block, of the reference does what execN says. -/
def ROK (w0 : World) (R : RPar) (E : JE) (C : Ctx) (lens : List Nat) (f : FuncId) (n : Node) (e : JS → JR) (S : Scope) : Prop :=
  ∀ t ncs, RefI R E C lens S t → NodeR w0 n ncs → t.vs.length + n.size ≤ 5000 →
    Spec Tryz.prog w0 f #[.agg ncs.toArray, .agg (t.v R).toArray] (t.m R) (Ret (RRes R (e t.r.1) t.vs) noP)
theorem seq_ok {E : JE} {lens : List Nat} {s : JS} (l : List Node) (hi : ∀ x ∈ E.inp, I32 x) (h : OKJ E lens s) : OKJ E lens (seqJ (l.map (execN E)) s).1 := by
  have := okClosed.seq (l.map fun n E => execN E n) (fun f hf => by
    obtain ⟨n, -, rfl⟩ := List.mem_map.1 hf
    exact okClosed.exec n) E lens s hi h
  simpa [List.map_map, Function.comp_def] using this
theorem seq_err {E : JE} {l r : List Node} {s : JS} {e : Int} (h : (seqJ (l.map (execN E)) s).2 = some e) : seqJ ((l ++ r).map (execN E)) s = seqJ (l.map (execN E)) s := by
  rw [List.map_append, seqJ_append, bindJ_some h, ← h]
theorem seq_next {E : JE} {l : List Node} {n : Node} {s : JS} (h : (seqJ (l.map (execN E)) s).2 = none) : seqJ ((l ++ [n]).map (execN E)) s = execN E n (seqJ (l.map (execN E)) s).1 := by
  rw [List.map_append, seqJ_append, bindJ_none h]
  show bindJ (execN E n _) (fun s => (s, none)) = _
  generalize execN E n _ = r
  obtain ⟨s1, x⟩ := r
  cases x <;> rfl
abbrev zeroE : List Value := [.slice none 0 0, .slice none 0 0, .slice none 0 0, .int .i64 0, .int .i64 0, .int .i64 0, .int .i64 0]
theorem errOf_none {r : JR} (h : r.2 = none) : errOf r = 0 := by unfold errOf; rw [h]; rfl
theorem errOf_some {r : JR} {e : Int} (h : r.2 = some e) : errOf r = e := by unfold errOf; rw [h]; rfl
theorem vOne (R : RPar) (t : RSt) : ∀ u ∈ t.v R, u.oneCell' = true := envV_one _ _ _ _ _ _ _ _ _ _ _
end Go.Proofs.YtgmapenlgammfaaGreatDoor

/- The reference's block. -/
namespace Go.Proofs.YtgmapenlgammfaaGreatDoor
open Go
section
variable {w0 : World} {R : RPar} {E : JE} {C : Ctx} {lens : List Nat} {S : Scope} {t : RSt}
theorem RefI.next (h : RefI R E C lens S t) (u : RSt) (hu : RStOk R t.vs u) (hn : u.r.2 = none) (ho : OKJ E lens u.r.1) : RefI R E C lens S u where
  nn := hn
  ok := ho
  us := hu.us
  v32 := hu.v32
  vars := hu.vars hn
  sc := fun j => by rw [hu.nm]; exact h.sc j
  lp := h.lp
theorem RefI.rok (h : RefI R E C lens S t) : RStOk R t.vs t := ⟨h.us, rfl, h.v32, fun _ => h.vars⟩
theorem RStOk.vl {vs0 : Loc} {u : RSt} (h : RStOk R vs0 u) : u.vs.length = vs0.length := by
  have := congrArg List.length h.nm
  simpa using this
end
theorem rblock_spec {w0 : World} {R : RPar} {E : JE} {C : Ctx} {lens : List Nat} {S : Scope} (F0 : RefF w0 R E C lens) (nb : Int) (sb : ByteArray) (l : List Node) (hN0 : ∀ m ∈ l, ErrN (execN E m)) (hk : ∀ m ∈ l, ROK w0 R E C lens 92 m (execN E m) S) :
    ROK w0 R E C lens 55 (.mk 47 nb sb l) (seqJ (l.map (execN E))) S := by
  intro t ncs hI hR hsz
  obtain ⟨B, cp, rfl, hcap, hN⟩ := hR.kids
  have hkl := (Node.mk 47 nb sb l).kids_le
  have hsk : ∀ m ∈ l, m.size < (Node.mk 47 nb sb l).size := fun m hm => Node.size_kid (n := .mk 47 nb sb l) (by simpa [Node.kids] using hm)
  simp only [Node.kind, Node.num, Node.name, Node.kids] at *
  refine Spec.enter (args := [_, _]) Tryz.func55 rfl rfl rfl (fun F => ?_)
  refine kAutoB ?_
  (apply RL.boxR; exact kEv; exact rfl; intro b2)
  (apply RL.box; exact kEv; exact rfl; intro b3)
  (apply RL.alloc; exact rfl; exact rfl; intro b4)
  refine kAutoB ?_
  refine CJ.loop (σ := Nat × RSt) (fun q => q.1 ≤ l.length ∧ RStOk R t.vs q.2 ∧ OKJ E lens q.2.r.1 ∧ q.2.r = seqJ ((l.take q.1).map (execN E)) t.r.1)
    (fun q => [(5, .int .i64 (q.1 : Int)), (4, .pointer (some ⟨b4, 0, none⟩)), (3, .pointer (some ⟨b3, 0, none⟩)), (2, .pointer (some ⟨b2, 0, none⟩))])
    (fun q => cel b3 45 (q.2.v R) :: rcel b2 50 _ :: cel b4 45 zeroE :: (q.2.m R ++ F)) (fun q => l.length - q.1) (0, t)
    ⟨Nat.zero_le _, hI.rok, hI.ok, ?_⟩ (by exact kEsub) (by exact kGives) ?_
  · obtain ⟨⟨s, x⟩, vs, us, A, c, Ao, co⟩ := t
    have := hI.nn
    simp only at this
    subst this
    rfl
  rintro ⟨i, u⟩ ⟨hi, hu, ho, he⟩
  simp only at hi hu ho he
  refine kAutoB ?_
  have hd : l = l.take i ++ l.drop i := (List.take_append_drop i l).symm
  cases hlt : decide ((i : Int) < (l.length : Int))
  · have hge : i = l.length := by have := of_decide_eq_false hlt; omega
    subst hge
    rw [List.take_length] at he
    refine kAutoB ?_
    refine RL.s0 (OpS.storeA (q := 7) kEv kEv (by exact rfl) (vOne R u) (Takes.there (Takes.there (Takes.here _ _))) (by exact Nat.le_refl 7)) ?_ (fun _ _ h => h.elim)
    rintro _ _ rfl
    refine kAutoB ?_
    exact XJ.retC rfl rfl (HasAt.pt (Takes.here _ _) atAll) rfl (u.m R) (Gives.drop (Gives.drop (Gives.drop (Gives.refl _)))) ⟨u, he, hu, rfl, rfl⟩
  have hlt' : i < l.length := by have := of_decide_eq_true hlt; omega
  refine kAutoB ?_
  rcases hx : u.r.2 with _ | e
  · have h0 := errOf_none hx
    rw [show (errOf u.r == 0) = true by rw [h0]; rfl]
    refine kAutoB ?_
    obtain ⟨bq, o, r, e1, hb, hrl, hr⟩ := hN.at_ i hlt'
    subst e1
    have hnx := seq_next (E := E) (s := t.r.1) (l := l.take i) (n := l[i]) (by rw [← he]; exact hx)
    have htk : l.take i ++ [l[i]] = l.take (i + 1) := by rw [List.take_succ_eq_append_getElem hlt']
    rw [htk, ← he] at hnx
    have hst := hk l[i] (List.getElem_mem hlt') u r (hI.next u hu hx ho) hr (by rw [hu.vl]; have := hsk l[i] (List.getElem_mem hlt'); omega)
    (refine CJ.draws mixed 7 [rcel b2 _ _, cel b3 _ _] (by exact kGives) (dom_of (by kernel_rfl)) ?_)
    ((first | refine kAjB 0 ?_ | refine kAjS 0 ?_); (first | refine kAjB 1 ?_ | refine kAjS 1 ?_); (first | refine kAjB 2 ?_ | refine kAjS 2 ?_))
    (apply AJ.pur (i := 3); exact rfl; exact rfl; exact rfl; exact rfl; exact rfl; exact rfl; exact rfl; exact rfl; exact rfl; (apply OpP.indexAddr; exact kEv; exact kEv; exact hlt'))
    (apply AJ.pur (i := 4); exact rfl; exact rfl; exact rfl; exact rfl; exact rfl; exact rfl; exact rfl; exact rfl; exact rfl; (apply OpP.loadA; exact kEv; exact HasAt.base hb; exact hrl))
    ((first | refine kAjB 5 ?_ | refine kAjS 5 ?_))
    (refine AJ.loud1 (i := 6) (by kernel_rfl) (by kernel_rfl) rfl (by kernel_rfl) (by kernel_rfl) rfl rfl rfl rfl rfl rfl (OpS.call (by exact kEv) inferInstance (by exact kEvl) (Takes.there1 (Takes.there1 (Takes.there1 (Takes.app _ _)))) hst) ?_ ?_)
    rotate_left
    · rintro _ _ ⟨_, h, _⟩; exact h.elim
    rintro _ _ ⟨N, ⟨q, he2, hq, rfl, rfl⟩, rfl⟩
    refine ⟨Gives.skipApp (by exact kGives), ?_⟩
    (refine AJ.tail (by kernel_rfl) (by kernel_rfl) rfl (by kernel_rfl) (by kernel_rfl) (by kernel_rfl) ?_)
    refine RL.gives (M' := cel b3 45 (u.v R) :: rcel b2 50 _ :: cel b4 45 zeroE :: (q.m R ++ F)) (Gives.cons (Takes.appR _ (Takes.here _ _)) (Gives.cons (Takes.appR _ (Takes.here _ _)) (Gives.cons (Takes.appR _ (Takes.here _ _)) (Gives.refl _)))) ?_
    refine RL.s0 (OpS.storeA (q := 7) kEv kEv (by exact rfl) (vOne R q) (Takes.here _ _) (by exact Nat.le_refl 7)) ?_ (fun _ _ h => h.elim)
    rintro _ _ rfl
    refine kAutoB ?_
    rw [i64_succ i (by omega)]
    refine XJ.round (i + 1, q) ⟨by simp only; omega, ⟨hq.us, hq.nm.trans hu.nm, hq.v32, hq.vars⟩, ?_, ?_⟩ (by simp only; omega) (by exact kEsub) (by exact kGives)
    · simp only [he2, hnx.symm]
      exact seq_ok _ F0.i32 hI.ok
    · simp only [he2, hnx.symm]
  · have h0 := errOf_some hx
    rw [show (errOf u.r == 0) = false by
      rw [h0]
      have hne : e ≠ 0 := by
        rintro rfl
        exact ErrN.seq (fun m hm => hN0 m (List.mem_of_mem_take hm)) t.r.1 (he ▸ hx)
      simpa using hne]
    refine kAutoB ?_
    refine RL.s0 (OpS.storeA (q := 7) kEv kEv (by exact rfl) (vOne R u) (Takes.there (Takes.there (Takes.here _ _))) (by exact Nat.le_refl 7)) ?_ (fun _ _ h => h.elim)
    rintro _ _ rfl
    refine kAutoB ?_
    have hfull : seqJ (l.map (execN E)) t.r.1 = u.r := by
      rw [he] at hx
      have := seq_err (r := l.drop i) hx
      rw [← hd] at this
      rw [this, he]
    exact XJ.retC rfl rfl (HasAt.pt (Takes.here _ _) atAll) rfl (u.m R) (Gives.drop (Gives.drop (Gives.drop (Gives.refl _)))) ⟨u, hfull.symm, hu, rfl, rfl⟩
end Go.Proofs.YtgmapenlgammfaaGreatDoor

/- The reference's parts of a statement, over its states: step, expression, index, store, receive. -/
namespace Go.Proofs.YtgmapenlgammfaaGreatDoor
open Go
theorem Spec.frame {P : Program} {w0 : World} {f : FuncId} {args : Array Value} {pre : List HProp} {K : Value → List HProp → Prop} (A : HProp) (s : Spec P w0 f args pre (Ret K noP)) : Spec P w0 f args (A :: pre) (Ret (fun v N => ∃ N', K v N' ∧ N = A :: N') noP) := by
  unfold Spec at *
  intro F w h m t
  refine (s (A :: F) w h (star.perm List.perm_middle.symm m) t).mono ?_
  rintro e w' ⟨M', h', r, m', t'⟩
  cases e with
  | returned v => exact ⟨A :: M', h', ⟨M', r, rfl⟩, star.perm List.perm_middle m', t'⟩
  | panicked c => exact r.elim
  | outgrown => exact r.elim
theorem Spec.ret {P : Program} {w0 : World} {f : FuncId} {args : Array Value} {pre : List HProp} {K K' : Value → List HProp → Prop} (s : Spec P w0 f args pre (Ret K noP)) (k : ∀ v N, K v N → K' v N) : Spec P w0 f args pre (Ret K' noP) :=
  s.mono fun e M h => by
    cases e with
    | returned v => exact k v M h
    | panicked c => exact h
    | outgrown => exact h
def RSt.up (t : RSt) (r : JR) : RSt := { t with r := r }
theorem stepJ_same (E : JE) (s : JS) : (stepJ E s).1.cells = s.cells ∧ (stepJ E s).1.out = s.out ∧ (stepJ E s).1.read = s.read ∧ (stepJ E s).1.vars = s.vars := by
  unfold stepJ; split <;> exact ⟨rfl, rfl, rfl, rfl⟩
def codeO (e : Int) : Option Int := if e = 0 then none else some e
theorem errOf_code (s : JS) (e : Int) : errOf (s, codeO e) = e := by
  unfold errOf codeO
  split
  · rename_i h; exact h.symm
  · rfl
section
variable {w0 : World} {R : RPar} {E : JE} {C : Ctx} {lens : List Nat} {S : Scope} {t : RSt}
theorem RefI.vEq (F0 : RefF w0 R E C lens) (h : RefI R E C lens S t) : t.v R = envV t.A (t.cells R).length t.c R.Ai R.ni R.ci t.Ao t.r.1 t.co E.fuel 0 := by
  unfold RSt.v; rw [errOf_none h.nn, F0.fu]
theorem up_m (t : RSt) (R : RPar) {r : JR} (h1 : r.1.cells = t.r.1.cells) (h2 : r.1.out = t.r.1.out) : (t.up r).m R = t.m R := by
  simp only [RSt.m, RSt.cells, RSt.up, h1, h2]
theorem up_len (t : RSt) (R : RPar) {r : JR} (h1 : r.1.cells = t.r.1.cells) : (t.up r).cells R = t.cells R := by
  simp only [RSt.cells, RSt.up, h1]
theorem RefI.okUp (h : RefI R E C lens S t) {r : JR} (h1 : r.1.cells = t.r.1.cells) (h4 : r.1.vars = t.r.1.vars) : RStOk R t.vs (t.up r) :=
  ⟨by rw [up_len t R h1]; exact h.us, rfl, h.v32, fun _ => h.vars.trans h4.symm⟩
theorem RefI.stepI (h : RefI R E C lens S t) (hn : (stepJ E t.r.1).2 = none) : RefI R E C lens S (t.up (stepJ E t.r.1)) := by
  obtain ⟨h1, h2, h3, h4⟩ := stepJ_same E t.r.1
  exact ⟨hn, (stepJ_ok h.ok).1, (h.okUp h1 h4).us, h.v32, h.vars.trans h4.symm, h.sc, h.lp⟩
theorem rstep_R (w : World) (F0 : RefF w0 R E C lens) (h : RefI R E C lens S t) : Spec Tryz.prog w 136 #[.agg (t.v R).toArray] [] (Is (.agg ((t.up (stepJ E t.r.1)).v R).toArray)) := by
  obtain ⟨h1, h2, h3, h4⟩ := stepJ_same E t.r.1
  have := rstep_spec w E t.r.1 (h.st F0).1 t.A (t.cells R).length t.c R.Ai R.ni R.ci t.Ao t.co
  rw [h.vEq F0]
  have e : (t.up (stepJ E t.r.1)).v R = envV t.A (t.cells R).length t.c R.Ai R.ni R.ci t.Ao (stepJ E t.r.1).1 t.co E.fuel (errOf (stepJ E t.r.1)) := by
    unfold RSt.v
    rw [up_len t R h1, F0.fu]
    rfl
  rw [e]
  exact this
theorem rexpr_R (F0 : RefF w0 R E C lens) (hI : RefI R E C lens S t) (hv : t.vs.length ≤ 10000) {w : World} {h : Frag} {Z : List HProp} (mm : star (t.m R ++ Z) h) (sa : Go.Proofs.YtgmapenlgammfaaGreatDoor.Sat w0 w h) {n : Node} {cs : List Value} (hs : n.size < 4611686018427387904) (hR : NodeR w0 n cs) (hB : isB n 1 = true) :
    Spec Tryz.prog w 38 #[.agg cs.toArray, .slice t.A (t.cells R).length t.c] [] (Is (.tuple #[.int .i32 (resP (evJ E t.r.1 n)).1, .int .i64 (resP (evJ E t.r.1 n)).2])) := by
  have hC : CellsR w (.slice t.A (t.cells R).length t.c) (t.cells R) := cells_heap (Z := Z) hI.us mm.tail sa
  have := rExpr_spec w _ _ hC (hI.cok F0 hv) n.size n cs (Nat.le_refl _) hs (hR.up sa.below) hB
  rw [hI.ev F0] at this
  exact this
def idxJ (E : JE) (s : JS) (p : Node) : Except Int Int := if p.kind = 2 then .ok 0 else evJ E s (kid p.kids 0)
theorem rindex_R (F0 : RefF w0 R E C lens) (hI : RefI R E C lens S t) (hv : t.vs.length ≤ 10000) {w : World} {h : Frag} {Z : List HProp} (mm : star (t.m R ++ Z) h) (sa : Go.Proofs.YtgmapenlgammfaaGreatDoor.Sat w0 w h) {p : Node} {cs : List Value} (hs : p.size < 4611686018427387904) (hR : NodeR w0 p cs) (hB : isB p 2 = true) :
    Spec Tryz.prog w 139 #[.agg cs.toArray, .agg (t.v R).toArray] [] (Is (.tuple #[.int .i32 (resP (idxJ E t.r.1 p)).1, .agg ((t.up (t.r.1, codeO (resP (idxJ E t.r.1 p)).2)).v R).toArray])) := by
  have hC : CellsR w (.slice t.A (t.cells R).length t.c) (t.cells R) := cells_heap (Z := Z) hI.us mm.tail sa
  have := rindex_spec w (t.cells R) t.A t.c hC (hI.cok F0 hv) p cs (hR.up sa.below) hs hB t.r.1 E.fuel R.Ai R.ni R.ci t.Ao t.co
  have e0 : indexP (rhoC (t.cells R)) (alphaC (t.cells R)) p = resP (idxJ E t.r.1 p) := by
    unfold indexP idxJ
    rw [hI.ev F0]
    split <;> rfl
  rw [e0] at this
  have e : (t.up (t.r.1, codeO (resP (idxJ E t.r.1 p)).2)).v R = envV t.A (t.cells R).length t.c R.Ai R.ni R.ci t.Ao t.r.1 t.co E.fuel (resP (idxJ E t.r.1 p)).2 := by
    unfold RSt.v
    rw [up_len t R (r := (t.r.1, codeO (resP (idxJ E t.r.1 p)).2)) rfl, F0.fu]
    show envV _ _ _ _ _ _ _ _ _ _ (errOf (t.r.1, codeO _)) = _
    rw [errOf_code]
    rfl
  rw [hI.vEq F0, e]
  exact this
/-- A value at a place with an index. -/
def putJ (E : JE) (p : Node) (i x : Int) (s : JS) : JR :=
  if p.kind = 2 then (setVar s p.name x, none) else match E.ix p.name with
    | none => (s, some 6)
    | some a => if idxB i (s.cells.getD a []).length then (setCell s a i x, none) else (s, some 11)
theorem wsP_cases {p : Node} (hp : WsP C S p) : (∃ n s, p = .mk 2 n s [] ∧ S.scalars s = true) ∨ ∃ n s a, p = .mk 3 n s [a] ∧ itemOk C S s ∧ WsE C S a := by
  cases hp with
  | var n s h1 h2 => exact .inl ⟨n, s, rfl, h1⟩
  | item n s a h1 h2 => exact .inr ⟨n, s, a, rfl, h1, h2⟩
theorem RefF.ixOf (F0 : RefF w0 R E C lens) {s : ByteArray} (h : itemOk C S s) : ∃ a, E.ix s = some a ∧ R.names[a]? = some s := by
  have hm : s ∈ R.names := F0.ctx s (by
    rcases h with h | ⟨_, h, _⟩
    · exact .inl h
    · exact .inr h)
  obtain ⟨a, ha⟩ := List.getElem?_of_mem hm
  exact ⟨a, (F0.ix.iff s a).2 ha, ha⟩
theorem findD_mk (names : List ByteArray) (cs : List (List Int)) (vs : Loc) (nm : ByteArray) : findD (mkC names cs vs) nm true (mkC names cs vs).length = findD (arrC names cs) nm true (arrC names cs).length := by
  unfold mkC
  induction vs using snocRec with
  | nil => simp [locC]
  | append_singleton r p ih =>
    have e : arrC names cs ++ locC (r ++ [p]) = (arrC names cs ++ locC r) ++ [⟨p.1, false, [p.2]⟩] := by simp [locC]
    rw [e, findD_snoc, if_neg (by simp), ih]
/-- Where a place lies. -/
theorem place_at (F0 : RefF w0 R E C lens) (hI : RefI R E C lens S t) {p : Node} (hp : WsP C S p) (i x : Int) (hx : I32 x) (hi : I32 i) (h0 : p.kind = 2 → i = 0) :
    ∃ k : Nat, findD (t.cells R) p.name (p.kind == 3) (t.cells R).length = (k : Int) ∧ k < (t.cells R).length ∧ ∃ vs', (∀ r : JR, r.1.cells = (putJ E p i x t.r.1).1.cells → r.1.vars = (putJ E p i x t.r.1).1.vars → RStOk R t.vs { t with r := r, vs := vs' }) ∧
      (if inB (t.cells R) k i then storeC (t.cells R) k i x else t.cells R) = mkC R.names (putJ E p i x t.r.1).1.cells vs' ∧ (putJ E p i x t.r.1).2 = (if inB (t.cells R) k i then none else some 11) := by
  have hcl := hI.cl F0
  have hin : ∀ k (hk : k < (t.cells R).length), inB (t.cells R) k i = (!decide (i < 0) && decide (i < (((t.cells R)[k]).l.length : Int))) := fun k hk => by
    unfold inB
    rw [show (t.cells R).getD k rc0 = (t.cells R)[k] by simp [List.getD_eq_getElem?_getD, hk]]
  rcases wsP_cases hp with ⟨n, s, rfl, h1⟩ | ⟨n, s, a, rfl, h1, h2⟩
  · have hz := h0 rfl
    subst hz
    obtain ⟨j, hj, e1, e2, e3⟩ := findD_loc (arrC R.names t.r.1.cells) t.vs ((hI.sc s).1 h1)
    rw [arrC_len hcl] at e1
    have hk : R.names.length + j < (t.cells R).length := by rw [hI.clen F0]; omega
    have hck : (t.cells R)[R.names.length + j] = ⟨s, false, [(t.vs[j]).2]⟩ := by
      have h9 : (t.cells R)[R.names.length + j]? = some ⟨s, false, [(t.vs[j]).2]⟩ := by
        show (arrC R.names t.r.1.cells ++ locC t.vs)[R.names.length + j]? = _
        rw [List.getElem?_append_right (by rw [arrC_len hcl]; omega), arrC_len hcl, Nat.add_sub_cancel_left]
        simp [locC, hj, e2]
      exact (List.getElem?_eq_some_iff.1 h9).2
    refine ⟨R.names.length + j, e1, hk, t.vs.set j (s, x), ?_, ?_, ?_⟩
    · intro r hr1 hr2
      refine ⟨?_, ?_, ?_, ?_⟩
      · have := hI.us
        have h3 : (RSt.cells R { t with r := r, vs := t.vs.set j (s, x) }).length = (t.cells R).length := by
          unfold RSt.cells
          rw [mkC_len (by rw [hr1]; exact hcl), mkC_len hcl]
          simp
        rw [h3]
        exact this
      · show (t.vs.set j (s, x)).map (·.1) = _
        apply List.ext_getElem?
        intro q
        simp only [List.getElem?_map, List.getElem?_set]
        by_cases hq : j = q
        · subst hq; simp [hj, e2]
        · simp [hq]
      · intro q hq
        rcases List.mem_or_eq_of_mem_set hq with hq | rfl
        · exact hI.v32 q hq
        · exact hx
      · intro _
        show lookL (t.vs.set j (s, x)) = r.1.vars
        rw [lookL_set hj e2 e3, hI.vars, hr2]
        rfl
    · rw [hin _ hk, hck]
      simp only [List.length_singleton]
      rw [if_pos (show (!decide ((0 : Int) < 0) && decide ((0 : Int) < ((1 : Nat) : Int))) = true by decide)]
      unfold storeC
      rw [show (t.cells R).getD (R.names.length + j) rc0 = (t.cells R)[R.names.length + j] by simp [List.getD_eq_getElem?_getD, hk], hck]
      show (mkC R.names t.r.1.cells t.vs).set _ _ = mkC R.names t.r.1.cells _
      unfold mkC
      rw [List.set_append_right _ _ (by rw [arrC_len hcl]; omega), arrC_len hcl, Nat.add_sub_cancel_left]
      congr 1
      unfold locC
      rw [List.map_set]
      rfl
    · rw [hin _ hk, hck]
      rfl
  · obtain ⟨b, hb, hbn⟩ := F0.ixOf h1
    have hbl : b < R.names.length := (List.getElem?_eq_some_iff.1 hbn).1
    obtain ⟨hk0, hck0⟩ := arrC_get hcl hbn
    have hk : b < (t.cells R).length := by rw [hI.clen F0]; omega
    have hck : (t.cells R)[b] = ⟨s, true, t.r.1.cells.getD b []⟩ := by
      have h9 : (t.cells R)[b]? = some ⟨s, true, t.r.1.cells.getD b []⟩ := by
        show (arrC R.names t.r.1.cells ++ locC t.vs)[b]? = _
        rw [List.getElem?_append_left hk0, List.getElem?_eq_getElem hk0, hck0]
      exact (List.getElem?_eq_some_iff.1 h9).2
    have hfd : findD (t.cells R) s true (t.cells R).length = (b : Int) := by
      unfold RSt.cells
      rw [findD_mk, findD_arr hcl F0.ix.nd hbn]
    have hix : inB (t.cells R) b i = idxB i (t.r.1.cells.getD b []).length := by
      have hi' := hi
      unfold I32 at hi'
      rw [hin b hk, hck]
      unfold idxB
      rw [wrap64 (n := i) ⟨by omega, by omega⟩]
      congr 1
      simp only [ge_iff_le]
      by_cases h : i < ((t.r.1.cells.getD b []).length : Int)
      · rw [decide_eq_true h, decide_eq_false (by omega)]; rfl
      · rw [decide_eq_false h, decide_eq_true (by omega)]; rfl
    have hput : putJ E (.mk 3 n s [a]) i x t.r.1 = if idxB i (t.r.1.cells.getD b []).length then (setCell t.r.1 b i x, none) else (t.r.1, some 11) := by
      unfold putJ
      rw [if_neg (show ¬ (Node.mk 3 n s [a]).kind = 2 from show ¬ (3 : Int) = 2 by decide)]
      show (match E.ix s with | none => _ | some a => _) = _
      rw [hb]
    refine ⟨b, hfd, hk, t.vs, ?_, ?_, ?_⟩
    · intro r hr1 hr2
      have hvs : r.1.vars = t.r.1.vars := by
        rw [hr2, hput]; split <;> rfl
      have hcs : r.1.cells.length = R.names.length := by
        rw [hr1, hput]
        split
        · simp only [setCell, List.length_set]; exact hcl
        · exact hcl
      refine ⟨?_, rfl, hI.v32, fun _ => hI.vars.trans hvs.symm⟩
      show t.us.length = (mkC R.names r.1.cells t.vs).length
      rw [mkC_len hcs, hI.us, hI.clen F0]
    · rw [hix, hput]
      split
      · unfold storeC
        rw [show (t.cells R).getD b rc0 = (t.cells R)[b] by simp [List.getD_eq_getElem?_getD, hk], hck]
        show (mkC R.names t.r.1.cells t.vs).set _ _ = mkC R.names (t.r.1.cells.set b _) _
        unfold mkC
        rw [List.set_append_left _ _ hk0, arrC_set hbn]
      · rfl
    · rw [hix, hput]
      split <;> rfl
theorem rstore_R (F0 : RefF w0 R E C lens) (hI : RefI R E C lens S t) (hv : t.vs.length ≤ 10000) {p : Node} {cs : List Value} (hR : NodeR w0 p cs) (hp : WsP C S p) (i x : Int) (hx : I32 x) (hi : I32 i) (h0 : p.kind = 2 → i = 0) :
    Spec Tryz.prog w0 141 #[.agg cs.toArray, .int .i32 i, .int .i32 x, .agg (t.v R).toArray] (t.m R) (Ret (RRes R (putJ E p i x t.r.1) t.vs) noP) := by
  obtain ⟨k, hk, hkl, vs', hok, hc, he⟩ := place_at F0 hI hp i x hx hi h0
  have := (rstore_spec w0 (t.cells R) (hI.cok F0 hv) t.us hI.us t.A t.c p cs hR k hk hkl i x hi t.r.1 E.fuel R.Ai R.ni R.ci t.Ao t.co).frame (row 106 2 (.slice t.Ao t.r.1.out.length t.co) t.r.1.out.length (outCells t.r.1.out))
  rw [hI.vEq F0]
  have ho : (putJ E p i x t.r.1).1.out = t.r.1.out ∧ (putJ E p i x t.r.1).1.read = t.r.1.read ∧ (putJ E p i x t.r.1).1.steps = t.r.1.steps := by
    unfold putJ
    split
    · exact ⟨rfl, rfl, rfl⟩
    · split
      · exact ⟨rfl, rfl, rfl⟩
      · split <;> exact ⟨rfl, rfl, rfl⟩
  refine this.ret ?_
  rintro v N ⟨N', ⟨rfl, rfl⟩, rfl⟩
  refine ⟨{ t with r := putJ E p i x t.r.1, vs := vs' }, rfl, hok _ rfl rfl, ?_, ?_⟩
  · unfold RSt.v
    have hl : (RSt.cells R { t with r := putJ E p i x t.r.1, vs := vs' }).length = (t.cells R).length := by
      unfold RSt.cells
      simp only
      rw [← hc]
      split
      · rw [storeC_len]; rfl
      · rfl
    rw [hl]
    unfold envV errOf
    simp only [ho.1, ho.2.1, ho.2.2, he, F0.fu]
    cases inB (t.cells R) k i <;> rfl
  · unfold RSt.m RSt.cells
    simp only [ho.1]
    rw [← hc]
    rfl
end
end Go.Proofs.YtgmapenlgammfaaGreatDoor

/- The reference's receive over its states; what the machine's store comes to. -/
namespace Go.Proofs.YtgmapenlgammfaaGreatDoor
open Go
/-- A received value at a place with an index. -/
def takeJ (E : JE) (p : Node) (i : Int) (s : JS) : JR :=
  if (putJ E p i (E.inp.getD s.read 0) s).2 = none then ({ (putJ E p i (E.inp.getD s.read 0) s).1 with read := s.read + 1 }, none) else putJ E p i (E.inp.getD s.read 0) s
section
variable {w0 : World} {R : RPar} {E : JE} {C : Ctx} {lens : List Nat} {S : Scope} {t : RSt}
theorem rrecv_R (F0 : RefF w0 R E C lens) (hI : RefI R E C lens S t) (hv : t.vs.length ≤ 10000) {num : Int} {nm : ByteArray} {p : Node} {cs : List Value} (hR : NodeR w0 (.mk 44 num nm [p]) cs) (hp : WsP C S p) (i : Int) (hi : I32 i) (h0 : p.kind = 2 → i = 0) :
    Spec Tryz.prog w0 140 #[.agg cs.toArray, .int .i32 i, .agg (t.v R).toArray] (t.m R) (Ret (RRes R (takeJ E p i t.r.1) t.vs) noP) := by
  have hx : I32 (E.inp.getD t.r.1.read 0) := getD_mem F0.i32 _
  obtain ⟨k, hk, hkl, vs', hok, hc, he⟩ := place_at F0 hI hp i (E.inp.getD t.r.1.read 0) hx hi h0
  have hin := F0.inp
  rw [F0.ni] at hin
  have := (rreceive_spec w0 (t.cells R) (hI.cok F0 hv) t.us hI.us t.A t.c num nm p cs hR k hk hkl i hi t.r.1 (hI.st F0).2.1 E.fuel R.Ai R.ci E.inp hin t.Ao t.co).frame (row 106 2 (.slice t.Ao t.r.1.out.length t.co) t.r.1.out.length (outCells t.r.1.out))
  rw [hI.vEq F0, F0.ni]
  have ho : ∀ x, (putJ E p i x t.r.1).1.out = t.r.1.out ∧ (putJ E p i x t.r.1).1.read = t.r.1.read ∧ (putJ E p i x t.r.1).1.steps = t.r.1.steps := by
    intro x
    unfold putJ
    split
    · exact ⟨rfl, rfl, rfl⟩
    · split
      · exact ⟨rfl, rfl, rfl⟩
      · split <;> exact ⟨rfl, rfl, rfl⟩
  have ho' := ho (E.inp.getD t.r.1.read 0)
  have ht : (takeJ E p i t.r.1).1.cells = (putJ E p i (E.inp.getD t.r.1.read 0) t.r.1).1.cells ∧ (takeJ E p i t.r.1).1.vars = (putJ E p i (E.inp.getD t.r.1.read 0) t.r.1).1.vars ∧ (takeJ E p i t.r.1).1.out = t.r.1.out ∧ (takeJ E p i t.r.1).1.steps = t.r.1.steps ∧ (takeJ E p i t.r.1).1.read = (if inB (t.cells R) k i then t.r.1.read + 1 else t.r.1.read) ∧ (takeJ E p i t.r.1).2 = (if inB (t.cells R) k i then none else some 11) := by
    unfold takeJ
    generalize putJ E p i (E.inp.getD t.r.1.read 0) t.r.1 = q at *
    cases hb : inB (t.cells R) k i
    · rw [hb] at he
      rw [if_neg (by rw [he]; simp)]
      exact ⟨rfl, rfl, ho'.1, ho'.2.2, ho'.2.1, he⟩
    · rw [hb] at he
      rw [if_pos (by rw [he]; simp)]
      exact ⟨rfl, rfl, ho'.1, ho'.2.2, rfl, rfl⟩
  refine this.ret ?_
  rintro v N ⟨N', ⟨rfl, rfl⟩, rfl⟩
  refine ⟨{ t with r := takeJ E p i t.r.1, vs := vs' }, rfl, hok _ ht.1 ht.2.1, ?_, ?_⟩
  · unfold RSt.v
    have hl : (RSt.cells R { t with r := takeJ E p i t.r.1, vs := vs' }).length = (t.cells R).length := by
      unfold RSt.cells
      simp only [ht.1]
      rw [← hc]
      split
      · rw [storeC_len]; rfl
      · rfl
    rw [hl]
    unfold envV errOf
    simp only [ht.2.2.1, ht.2.2.2.1, ht.2.2.2.2.1, ht.2.2.2.2.2, F0.fu, F0.ni]
    cases inB (t.cells R) k i <;> rfl
  · unfold RSt.m RSt.cells
    simp only [ht.1, ht.2.2.1]
    rw [← hc]
    rfl
theorem storeJ_err (F0 : RefF w0 R E C lens) {p : Node} (hp : WsP C S p) {early : Bool} {g : JS → JS × Except Int Int} {s : JS} {e : Int} (he : idxJ E s p = .error e) : storeJ E p early g s = (s, some e) := by
  rcases wsP_cases hp with ⟨n, nm, rfl, h1⟩ | ⟨n, nm, a, rfl, h1, h2⟩
  · cases he
  · obtain ⟨b, hb, -⟩ := F0.ixOf h1
    have he' : evJ E s a = .error e := he
    unfold storeJ
    rw [if_neg (show ¬ (Node.mk 3 n nm [a]).kind = 2 from show ¬ (3 : Int) = 2 by decide)]
    show (match E.ix nm with | none => _ | some a => _) = _
    rw [hb]
    show (match evJ E s a with | .error e => _ | .ok i => _) = _
    rw [he']
theorem storeJ_put (F0 : RefF w0 R E C lens) {p : Node} (hp : WsP C S p) {g : JS → JS × Except Int Int} {s : JS} {i : Int} (hi : idxJ E s p = .ok i) (x : Except Int Int) (hg : g s = (s, x)) : storeJ E p true g s = match (generalizing := false) x with
    | .error e => (s, some e)
    | .ok v => putJ E p i v s := by
  rcases wsP_cases hp with ⟨n, nm, rfl, h1⟩ | ⟨n, nm, a, rfl, h1, h2⟩
  · unfold storeJ putJ
    rw [if_pos (show (Node.mk 2 n nm []).kind = 2 from rfl), hg]
    cases x with
    | error e => rfl
    | ok v => simp only; rw [if_pos (show (Node.mk 2 n nm []).kind = 2 from rfl)]
  · obtain ⟨b, hb, -⟩ := F0.ixOf h1
    have hi' : evJ E s a = .ok i := hi
    unfold storeJ putJ
    rw [if_neg (show ¬ (Node.mk 3 n nm [a]).kind = 2 from show ¬ (3 : Int) = 2 by decide)]
    simp only [show (Node.mk 3 n nm [a]).name = nm from rfl, show kid (Node.mk 3 n nm [a]).kids 0 = a from rfl, hb, hi', if_true, hg]
    cases x with
    | error e => rfl
    | ok v => simp only; rw [if_neg (show ¬ (Node.mk 3 n nm [a]).kind = 2 from show ¬ (3 : Int) = 2 by decide)]
theorem storeJ_take (F0 : RefF w0 R E C lens) {p : Node} (hp : WsP C S p) {s : JS} {i : Int} (hi : idxJ E s p = .ok i) : storeJ E p false (recvJ E) s = takeJ E p i s := by
  rcases wsP_cases hp with ⟨n, nm, rfl, h1⟩ | ⟨n, nm, a, rfl, h1, h2⟩
  · unfold takeJ storeJ putJ
    rw [if_pos (show (Node.mk 2 n nm []).kind = 2 from rfl), if_pos (show (Node.mk 2 n nm []).kind = 2 from rfl)]
    rfl
  · obtain ⟨b, hb, -⟩ := F0.ixOf h1
    have hi' : evJ E s a = .ok i := hi
    unfold takeJ storeJ putJ
    rw [if_neg (show ¬ (Node.mk 3 n nm [a]).kind = 2 from show ¬ (3 : Int) = 2 by decide), if_neg (show ¬ (Node.mk 3 n nm [a]).kind = 2 from show ¬ (3 : Int) = 2 by decide)]
    simp only [show (Node.mk 3 n nm [a]).name = nm from rfl, show kid (Node.mk 3 n nm [a]).kids 0 = a from rfl, hb, hi', Bool.false_eq_true, if_false]
    by_cases h : idxB i (s.cells.getD b []).length = true
    · simp only [h, if_true]
      rfl
    · simp only [h, if_false]
      rfl
theorem idxJ_range (hI : RefI R E C lens S t) {p : Node} {i : Int} (h : idxJ E t.r.1 p = .ok i) : I32 i ∧ (p.kind = 2 → i = 0) := by
  unfold idxJ at h
  split at h
  · injection h with h; subst h; exact ⟨.zero, fun _ => rfl⟩
  · exact ⟨hI.ok.ev h, fun h' => by contradiction⟩
theorem idxJ_ne0 {p : Node} (hp : WsP C S p) {s : JS} {e : Int} (h : idxJ E s p = .error e) : e ≠ 0 := by
  unfold idxJ at h
  split at h
  · cases h
  · rename_i hk
    exact wsE_ne0 ((wsP_kid hp).resolve_left hk).2 e h
end
end Go.Proofs.YtgmapenlgammfaaGreatDoor
