/- The package interp: Job. -/
import Derived.Test.YtgmapenlgammfaaGreatDoorCaught
import Derived.Test.YtgmapenlgammfaaGreatDoorExec
import Derived.Test.YtgmapenlgammfaaGreatDoorCheck
set_option linter.all false
namespace Go.Proofs.YtgmapenlgammfaaGreatDoor
open Go

/-- Names as indices from i on, a later one before an earlier one. -/
def ixUp : List ByteArray → Nat → (ByteArray → Option Nat) → ByteArray → Option Nat
  | [], _, f => f
  | n :: r, i, f => ixUp r (i + 1) (fun k => if k = n then some i else f k)
theorem ixUp_snoc (l : List ByteArray) (n : ByteArray) : ∀ i f, ixUp (l ++ [n]) i f = fun k => if k = n then some (i + l.length) else ixUp l i f k := by
  induction l with
  | nil => intro i f; rfl
  | cons x r ih =>
    intro i f
    simp only [List.cons_append, ixUp]
    rw [ih]
    funext k
    simp only [List.length_cons]
    rw [show i + 1 + r.length = i + (r.length + 1) by omega]
theorem ixUp_lt (l : List ByteArray) : ∀ i f (b : Nat), (∀ k j, f k = some j → j < b) → i + l.length ≤ b → ∀ k j, ixUp l i f k = some j → j < b := by
  induction l with
  | nil => intro i f b hf _ k j h; exact hf k j h
  | cons x r ih =>
    intro i f b hf hb k j h
    simp only [List.length_cons] at hb
    refine ih (i + 1) _ b ?_ (by omega) k j h
    intro k j hk
    split at hk
    · injection hk with hk; omega
    · exact hf k j hk
def arrNames (l : List Arr) : List ByteArray := l.map Arr.name
def varsOf (l : List ByteArray) : ByteArray → Option Int := fun nm => if l.any (fun x => decide (x = nm)) then some 0 else none
def jobIx (T : Task) (p : Prg) : ByteArray → Option Nat := ixUp (arrNames p.shared) T.arrays.length (ixUp (arrNames T.arrays) 0 fun _ => none)
def jobE (T : Task) (p : Prg) (inp : List Int) (fuel : Int) : JE := ⟨jobIx T p, inp, fuel⟩
def job0 (T : Task) (mt ms : List (List Int)) : JS := ⟨varsOf T.vars, mt ++ ms, [], 0, 0⟩
/-- What a job leaves, from the state in which it ends. -/
def jobFin (m : Mem) (t n : Nat) (r : JR) : JobRes := ⟨⟨m.arrays.set t (r.1.cells.take n), r.1.cells.drop n⟩, r.1.out, r.1.read, r.1.steps, r.2.getD 0⟩
/-- A job of a task. -/
def jobRun (p : Prg) (t : Nat) (m : Mem) (inp : List Int) (fuel : Int) : JobRes :=
  jobFin m t (m.arrays.getD t []).length (execN (jobE (p.tasks.getD t task0) p inp fuel) (p.tasks.getD t task0).body (job0 (p.tasks.getD t task0) (m.arrays.getD t []) m.shared))
def errRes (e : Int) : JobRes := ⟨⟨[], []⟩, [], 0, 0, e⟩
def jobAll (p : Prg) (t : Int) (m : Mem) (inp : List Int) (fuel : Int) : JobRes :=
  if okB p = false then errRes 3 else if t < 0 ∨ t ≥ p.tasks.length then errRes 2 else if fitsB p m = false then errRes 14 else jobRun p t.toNat m inp fuel
theorem errRes_R (w : World) (e : Int) : ResR w [.slice none 0 0, .slice none 0 0, .slice none 0 0, .int .i64 0, .int .i64 0, .int .i64 e] (errRes e) := by
  refine ⟨_, _, _, rfl, ⟨none, 0, [], rfl, Nat.le_refl _, rfl, ?_, ?_⟩, ⟨none, 0, [], rfl, Nat.le_refl _, rfl, ?_, ?_⟩, ⟨none, 0, rfl, Nat.le_refl _, ?_⟩⟩
  · intro i r h; simp at h
  · intro i m u h; simp [errRes] at h
  · intro i r h; simp at h
  · intro i m u h; simp [errRes] at h
  · intro i r h; simp [errRes] at h
structure Mem32 (m : Mem) : Prop where
  arrays : ∀ q ∈ m.arrays, ∀ l ∈ q, ∀ x ∈ l, I32 x
  shared : ∀ l ∈ m.shared, ∀ x ∈ l, I32 x
/-- What a memory that fits looks like. -/
structure FitM (p : Prg) (m : Mem) : Prop where
  sh : m.shared.length = p.shared.length
  ar : m.arrays.length = p.tasks.length
  sl : p.shared.length ≤ 4
  tl : p.tasks.length ≤ 8
  se : ∀ l ∈ m.shared, l.length ≤ 32
  ae : ∀ (i : Nat) (T : Task) (q : List (List Int)), p.tasks[i]? = some T → m.arrays[i]? = some q → q.length = T.arrays.length ∧ T.arrays.length ≤ 4 ∧ T.vars.length ≤ 12 ∧ isB T.body 8 = true ∧ T.body.size ≤ 400 ∧ ∀ l ∈ q, l.length ≤ 32
theorem arrB_len {a : Arr} (h : arrB a = true) : 1 ≤ a.len ∧ a.len ≤ 32 := by
  unfold arrB at h
  simp only [Bool.and_eq_true, Bool.not_eq_true', decide_eq_false_iff_not] at h
  omega
theorem sizedB_each {l : List Arr} {m : List (List Int)} (h : sizedB l m = true) (ha : ∀ a ∈ l, arrB a = true) : m.length = l.length ∧ ∀ x ∈ m, x.length ≤ 32 := by
  unfold sizedB at h
  rw [Bool.and_eq_true, decide_eq_true_eq, allI_iff] at h
  refine ⟨h.1.symm, ?_⟩
  intro x hx
  obtain ⟨i, hi, rfl⟩ := List.mem_iff_getElem.1 hx
  have h2 := h.2 i (by omega)
  rw [decide_eq_true_eq, List.getD_eq_getElem?_getD, List.getElem?_eq_getElem hi, List.getD_eq_getElem?_getD, List.getElem?_eq_getElem (by omega)] at h2
  simp only [Option.getD_some] at h2
  have := arrB_len (ha _ (List.getElem_mem (show i < l.length by omega)))
  omega
theorem fits_facts {p : Prg} {m : Mem} (hf : Fit p) (h : fitsB p m = true) : FitM p m := by
  unfold fitsB at h
  simp only [Bool.and_eq_true] at h
  obtain ⟨⟨hv, hs⟩, ha⟩ := h
  rw [validB, Bool.and_eq_true, Bool.and_eq_true, arrsB, Bool.and_eq_true] at hv
  obtain ⟨⟨⟨hv1, hv2⟩, hv3⟩, hv4⟩ := hv
  have hs' := sizedB_each hs (fun a h => List.all_eq_true.1 hv2 a h)
  unfold tasksB at ha
  rw [Bool.and_eq_true, decide_eq_true_eq, allI_iff] at ha
  refine ⟨hs'.1, ha.1.symm, by have := of_decide_eq_true hv1; omega, by have := of_decide_eq_true hv3; omega, hs'.2, ?_⟩
  intro i T q e1 e2
  obtain ⟨hi, rfl⟩ := List.getElem?_eq_some_iff.1 e1
  obtain ⟨hi2, rfl⟩ := List.getElem?_eq_some_iff.1 e2
  have h2 := ha.2 i hi
  rw [List.getD_eq_getElem?_getD, List.getElem?_eq_getElem hi, List.getD_eq_getElem?_getD, List.getElem?_eq_getElem hi2] at h2
  simp only [Option.getD_some] at h2
  have htb := List.all_eq_true.1 hv4 _ (List.getElem_mem hi)
  have hz := task_sizes htb (hf.each _ (List.getElem_mem hi)).2.2
  unfold taskB at htb
  simp only [Bool.and_eq_true] at htb
  obtain ⟨⟨⟨-, hta⟩, -⟩, ⟨⟨⟨hbb, -⟩, -⟩, -⟩⟩ := htb
  unfold arrsB at hta
  rw [Bool.and_eq_true] at hta
  have h3 := sizedB_each h2 (fun a h => List.all_eq_true.1 hta.2 a h)
  exact ⟨h3.1, hz.2.1, hz.1, hbb, hz.2.2, h3.2⟩
theorem varsOf_snoc (l : List ByteArray) (n : ByteArray) : varsOf (l ++ [n]) = updI (varsOf l) n 0 := by
  funext k
  unfold varsOf updI
  by_cases h : k = n
  · subst h; simp
  · have : ¬ n = k := fun e => h e.symm
    simp only [List.any_append, List.any_cons, List.any_nil, this, decide_false, Bool.or_false, h, if_false]
theorem vars_upd (f : ByteArray → Option Int) (nm : ByteArray) (v : Int) : upd (fun n => (f n).map intV) nm (.int .i32 v) = fun n => ((updI f nm v) n).map intV := by
  funext n
  unfold upd updI
  by_cases h : n = nm
  · simp [h, intV]
  · simp [h]
theorem arrs_upd (f : ByteArray → Option Nat) (us : List Value) (nm : ByteArray) (i : Nat) (v : Value) (h : us[i]? = some v) : upd (fun n => (f n).map fun j => us.getD j undef) nm v = fun n => ((fun k => if k = nm then some i else f k) n).map fun j => us.getD j undef := by
  funext n
  unfold upd
  by_cases hn : n = nm
  · simp [hn, List.getD_eq_getElem?_getD, h]
  · simp [hn]
theorem block_kids {n : Node} (h : isB n 8 = true) : ∀ x ∈ n.kids, isB x 4 = true := by
  cases n
  exact (block_cases h).2
theorem Job_spec (w0 : World) (hT : Tab w0) (p : Prg) (pcs : List Value) (hf : Fit p) (hR : PrgR w0 p pcs) (t : Int) (m : Mem) (mcs : List Value) (hM : MemR w0 mcs m) (h32 : Mem32 m) (inV : Value) (inp : List Int) (hin : IntsR w0 inV inp) (hi32 : ∀ x ∈ inp, I32 x) (hil : inp.length ≤ 1000000000) (fuel : Int) (hfu : fuel ≤ 1000000) :
    Spec Tryz.prog w0 16 #[.agg pcs.toArray, .int .i64 t, .agg mcs.toArray, inV, .int .i64 fuel] []
      (Ret (fun v N => ∃ cs, v = .agg cs.toArray ∧ ∀ b w h F, star (N ++ F) h → Go.Proofs.YtgmapenlgammfaaGreatDoor.Sat b w h → ResR w cs (jobAll p t m inp fuel)) noP) := by
  have hok := ok_spec w0 hT p pcs hf hR
  have hfit := fits_spec w0 hT p pcs hf hR m mcs hM
  obtain ⟨A1, c1, A2, c2, rfl, h1, h2, h3, h4⟩ := hR.ex
  obtain ⟨u, v, rfl, hu, hv⟩ := hM
  obtain ⟨A3, c3, vs3, rfl, hc3, hv3, hr3, hin3⟩ := hu
  have hinV := hin
  obtain ⟨Ai, ci, rfl, hci, hri⟩ := hin
  refine Spec.enterD (args := [_, _, _, _, _]) Tryz.func16 rfl rfl rfl (fun F => ?_)
  refine kAutoB ?_
  (apply RL.boxR; exact kEv; exact rfl; intro b5)
  (apply RL.boxR; exact kEv; exact rfl; intro b7)
  refine kAutoB ?_
  (apply RL.alloc; exact rfl; exact rfl; intro b10)
  refine kAutoB ?_
  (apply RL.callIs; exact kEv; exact inferInstance; exact kEvl; exact hok; exact rfl)
  cases hk : okB p
  · refine kAutoB ?_
    (apply RL.build (r := .agg #[.slice none 0 0, .slice none 0 0, .slice none 0 0, .int .i64 0, .int .i64 0, .int .i64 3]); exact rfl; exact kEvl; (intro w; kernel_rfl); exact rfl)
    (apply RL.storeA; exact kEv; exact kEv; exact kTake; exact rfl; exact rfl; exact rfl)
    refine kAutoB ?_
    refine XJ.early (XJ.retC rfl rfl (HasAt.pt (Takes.here _ _) atAll) rfl [] (by exact kGives) ⟨_, rfl, fun b w h F _ _ => ?_⟩)
    rw [jobAll, if_pos hk]
    exact errRes_R w 3
  have hr2 : ∀ {X : Prop}, (t < 0 ∨ t ≥ p.tasks.length) → jobAll p t m inp fuel = errRes 2 := fun {_} h => by
    rw [jobAll, if_neg (by rw [hk]; decide), if_pos h]
  refine kAutoB ?_
  cases hlt0 : decide (t < 0)
  case true =>
    refine kAutoB ?_
    (apply RL.build (r := .agg #[.slice none 0 0, .slice none 0 0, .slice none 0 0, .int .i64 0, .int .i64 0, .int .i64 2]); exact rfl; exact kEvl; (intro w; kernel_rfl); exact rfl)
    (apply RL.storeA; exact kEv; exact kEv; exact kTake; exact rfl; exact rfl; exact rfl)
    refine kAutoB ?_
    refine XJ.early (XJ.retC rfl rfl (HasAt.pt (Takes.here _ _) atAll) rfl [] (by exact kGives) ⟨_, rfl, fun b w h F _ _ => ?_⟩)
    rw [hr2 (X := True) (.inl (of_decide_eq_true hlt0))]
    exact errRes_R w 2
  refine kAutoB ?_
  cases hge : decide (t ≥ (p.tasks.length : Int))
  case true =>
    refine kAutoB ?_
    (apply RL.build (r := .agg #[.slice none 0 0, .slice none 0 0, .slice none 0 0, .int .i64 0, .int .i64 0, .int .i64 2]); exact rfl; exact kEvl; (intro w; kernel_rfl); exact rfl)
    (apply RL.storeA; exact kEv; exact kEv; exact kTake; exact rfl; exact rfl; exact rfl)
    refine kAutoB ?_
    refine XJ.early (XJ.retC rfl rfl (HasAt.pt (Takes.here _ _) atAll) rfl [] (by exact kGives) ⟨_, rfl, fun b w h F _ _ => ?_⟩)
    rw [hr2 (X := True) (.inr (of_decide_eq_true hge))]
    exact errRes_R w 2
  have hrange : ¬ (t < 0 ∨ t ≥ p.tasks.length) := by
    have := of_decide_eq_false hlt0
    have := of_decide_eq_false hge
    omega
  refine kAutoB ?_
  (apply RL.callIs; exact kEv; exact inferInstance; exact kEvl; exact hfit; exact rfl)
  cases hfb : fitsB p m
  · refine kAutoB ?_
    (apply RL.build (r := .agg #[.slice none 0 0, .slice none 0 0, .slice none 0 0, .int .i64 0, .int .i64 0, .int .i64 14]); exact rfl; exact kEvl; (intro w; kernel_rfl); exact rfl)
    (apply RL.storeA; exact kEv; exact kEv; exact kTake; exact rfl; exact rfl; exact rfl)
    refine kAutoB ?_
    refine XJ.early (XJ.retC rfl rfl (HasAt.pt (Takes.here _ _) atAll) rfl [] (by exact kGives) ⟨_, rfl, fun b w h F _ _ => ?_⟩)
    rw [jobAll, if_neg (by rw [hk]; decide), if_neg hrange, if_pos hfb]
    exact errRes_R w 14
  refine kAutoB ?_
  have hF := fits_facts hf hfb
  have hall : jobAll p t m inp fuel = jobRun p t.toNat m inp fuel := by rw [jobAll, if_neg (by rw [hk]; decide), if_neg hrange, if_neg (by rw [hfb]; decide)]
  rw [hall]
  clear hall hr2 hok hfit
  obtain ⟨tn, rfl⟩ : ∃ n : Nat, t = (n : Int) := ⟨t.toNat, by omega⟩
  have htn : tn < p.tasks.length := by omega
  rw [Int.toNat_natCast]
  have hcs := copied_spec w0 v m.shared hv (by have := hF.sh; have := hF.sl; omega) (fun l hl => by have := hF.se l hl; omega)
  refine kAutoB ?_
  (apply RL.callK; exact kEv; exact inferInstance; exact kEvl; exact (Takes.nil _); exact hcs; exact rfl)
  rintro _ _ ⟨vSA, vSc, usS, rfl, husS, rfl⟩
  refine RL.gives (M' := cel b10 37 [.slice none 0 0, .slice none 0 0, .slice none 0 0, .int .i64 0, .int .i64 0, .int .i64 0] :: rcel b7 29 [.slice A3 m.arrays.length c3, v] :: rcel b5 25 [.slice A1 p.shared.length c1, .slice A2 p.tasks.length c2] :: (matM (.slice vSA m.shared.length vSc) usS m.shared ++ F)) (by
    refine Gives.cons (Takes.appR _ (Takes.here _ _)) (Gives.cons (Takes.appR _ (Takes.here _ _)) (Gives.cons (Takes.appR _ (Takes.here _ _)) (Gives.refl _)))) ?_
  refine kAutoB ?_
  (apply RL.store; exact kEv; exact kEv; exact kTake; exact rfl; exact rfl; exact rfl)
  refine kAutoB ?_
  have hFa := hF.ar
  have hFt := hF.tl
  have hFs := hF.sh
  have hFl := hF.sl
  generalize hG : matM (.slice vSA m.shared.length vSc) usS m.shared ++ F = G
  refine CJ.gives (M' := cel b10 37 [.slice none 0 0, .slice vSA m.shared.length vSc, .slice none 0 0, .int .i64 0, .int .i64 0, .int .i64 0] :: row 27 1 (.slice none 0 0) 0 [] :: rcel b7 29 [.slice A3 m.arrays.length c3, v] :: rcel b5 25 [.slice A1 p.shared.length c1, .slice A2 p.tasks.length c2] :: (cubM [] [] [] ++ G)) (by
    refine (row_nil 27 1).trans ?_
    exact Gives.cons (Takes.there (Takes.here _ _)) (Gives.cons (Takes.here _ _) (Gives.refl _))) ?_
  refine CJ.loop (σ := Nat × Option Addr × Nat × List Value × List (List Value)) (fun s => s.1 ≤ m.arrays.length ∧ Lens s.2.2.2.1 s.2.2.2.2 (m.arrays.take s.1))
    (fun s => [(51, .int .i64 (s.1 : Int)), (50, .int .i64 m.arrays.length), (49, .slice A3 m.arrays.length c3), (10, .pointer (some ⟨b10, 0, none⟩)), (7, .pointer (some ⟨b7, 0, none⟩)), (5, .pointer (some ⟨b5, 0, none⟩)), (1, .int .i64 (tn : Int)), (3, .slice Ai inp.length ci), (4, .int .i64 fuel)])
    (fun s => cel b10 37 [.slice s.2.1 s.1 s.2.2.1, .slice vSA m.shared.length vSc, .slice none 0 0, .int .i64 0, .int .i64 0, .int .i64 0] :: row 27 1 (.slice s.2.1 s.1 s.2.2.1) s.1 s.2.2.2.1 :: rcel b7 29 [.slice A3 m.arrays.length c3, v] :: rcel b5 25 [.slice A1 p.shared.length c1, .slice A2 p.tasks.length c2] :: (cubM s.2.2.2.1 s.2.2.2.2 (m.arrays.take s.1) ++ G))
    (fun s => m.arrays.length - s.1) (0, none, 0, [], []) ⟨Nat.zero_le _, Lens.nil⟩ (by exact kEsub) (by exact kGives) ?_
  rintro ⟨i, Ao, co, vs, uss⟩ ⟨hi, hL⟩
  simp only at hi hL
  refine kAutoB ?_
  cases hlt : decide ((i : Int) < (m.arrays.length : Int))
  case true =>
    have hlt' : i < m.arrays.length := by have := of_decide_eq_true hlt; omega
    obtain ⟨b, o, hA3, hrl', hb⟩ := hr3.at_ i (by simpa using (by omega : i < vs3.length))
    subst hA3
    simp only [List.getElem_map] at hb hrl'
    have hmi := hin3 i m.arrays[i] (vs3[i]'(by omega)) (by simp [hlt']) (by simp [show i < vs3.length by omega])
    obtain ⟨q1, q2, q3, q4, q5, q6⟩ := hF.ae i (p.tasks[i]'(by omega)) m.arrays[i] (by simp [show i < p.tasks.length by omega]) (by simp [hlt'])
    have hZ2 := copied_spec w0 (vs3[i]'(by omega)) m.arrays[i] hmi (by omega) (fun l hl => by have := q6 l hl; omega)
    have hzt : m.arrays.take (i + 1) = m.arrays.take i ++ [m.arrays[i]] := List.take_succ_eq_append_getElem hlt'
    refine kAutoB ?_
    apply RL.pur; (apply OpP.indexAddr; exact kEv; exact kEv; exact hlt'); exact rfl
    apply RL.pur; (apply OpP.load; exact kEv; exact HasAt.base hb); exact rfl
    refine kAutoB ?_
    (refine CJ.draws mixed 7 [cel b10 _ _] (by exact kGives) (dom_of (by kernel_rfl)) ?_)
    ((first | refine kAjB 0 ?_ | refine kAjS 0 ?_); (first | refine kAjB 1 ?_ | refine kAjS 1 ?_); (first | refine kAjB 2 ?_ | refine kAjS 2 ?_); (first | refine kAjB 3 ?_ | refine kAjS 3 ?_))
    (refine AJ.loud1 (i := 4) (by kernel_rfl) (by kernel_rfl) rfl (by kernel_rfl) (by kernel_rfl) rfl rfl rfl rfl rfl rfl (OpS.call (by exact kEv) inferInstance (by exact kEvl) (Takes.nil _) hZ2) ?_ ?_)
    · rintro _ _ ⟨N, ⟨A8, c8, us8, rfl, hus8, rfl⟩, rfl⟩
      refine ⟨Gives.skipApp (by exact kGives), ?_⟩
      (refine AJ.loud1 (i := 5) (by kernel_rfl) (by kernel_rfl) rfl (by kernel_rfl) (by kernel_rfl) rfl rfl rfl rfl rfl rfl (OpS.buildSlice (E := 27) [.slice A8 m.arrays[i].length c8] rfl (by exact kEvl) (fun w => by kernel_rfl)) ?_ ?_)
      · rintro _ _ ⟨b9, rfl, rfl⟩
        refine ⟨Gives.drop (Gives.skipApp (by exact kGives)), ?_⟩
        (refine AJ.loud1 (i := 6) (by kernel_rfl) (by kernel_rfl) rfl (by kernel_rfl) (by kernel_rfl) rfl rfl rfl rfl rfl rfl (OpS.append (m := 1) (news := [.slice A8 m.arrays[i].length c8]) (by exact kEv) (by exact kEv) (Takes.there (Takes.appR _ (Takes.there (Takes.here _ _)))) (fun h m => ⟨rfl, by simp [Value.oneCell'], .inr ⟨_, _, _, rfl, HasAt.pt (Takes.here _ _) atAll⟩⟩) (by simp only [maxLen]; omega) (by omega)) ?_ ?_)
        · rintro _ _ ⟨⟨A10, c10, rfl⟩, rfl⟩
          refine ⟨Gives.drop (Gives.drop (Gives.skipApp (by exact kGives))), ?_⟩
          (refine AJ.tail (by kernel_rfl) (by kernel_rfl) rfl (by kernel_rfl) (by kernel_rfl) (by kernel_rfl) ?_)
          refine RL.gives (M' := cel b10 37 [.slice Ao i co, .slice vSA m.shared.length vSc, .slice none 0 0, .int .i64 0, .int .i64 0, .int .i64 0] :: row 27 1 (.slice A10 (i + 1) c10) (i + 1) (vs ++ [.slice A8 m.arrays[i].length c8]) :: rcel b7 29 [.slice (some ⟨b, o, none⟩) m.arrays.length c3, v] :: rcel b5 25 [.slice A1 p.shared.length c1, .slice A2 p.tasks.length c2] :: (cubM (vs ++ [.slice A8 m.arrays[i].length c8]) (uss ++ [us8]) (m.arrays.take (i + 1)) ++ G)) ?_ ?_
          · rw [hzt, cubM_snoc _ _ _ _ _ _ hL.l1 hL.l2]
            unfold matM
            refine Gives.cons (Takes.there (Takes.there (Takes.appR _ (Takes.here _ _)))) (Gives.cons (Takes.here _ _) (Gives.cons (Takes.there (Takes.appR _ (Takes.here _ _))) (Gives.cons (Takes.there (Takes.appR _ (Takes.here _ _))) (Gives.drop Gives.swapApp))))
          refine kAutoB ?_
          (apply RL.store; exact kEv; exact kEv; exact Takes.here _ _; exact rfl; exact rfl; exact rfl)
          refine kAutoB ?_
          rw [i64_succ i (by omega)]
          refine XJ.round (i + 1, A10, c10, vs ++ [.slice A8 m.arrays[i].length c8], uss ++ [us8]) ⟨by simp only; omega, ?_⟩ (by simp only; omega) (by exact kEsub) (by exact kGives)
          rw [hzt]
          exact hL.snoc hus8
        · rintro _ _ h; exact h.elim
      · rintro _ _ h; exact h.elim
    · rintro _ _ ⟨_, h, _⟩; exact h.elim
  have hge : i = m.arrays.length := by have := of_decide_eq_false hlt; omega
  subst hge
  rw [List.take_length] at hL
  rw [List.take_length]
  clear hlt
  generalize hvA : Ao = vAA
  generalize hvC : co = vAc
  refine kAutoB ?_
  obtain ⟨bt, ot, rt, hA2, hbt, hrt, hrtR⟩ := h4.at_ tn htn
  subst hA2
  obtain ⟨q1, q2, q3, q4, q5, q6⟩ := hF.ae tn p.tasks[tn] (m.arrays[tn]'(by omega)) (by simp [htn]) (by simp [show tn < m.arrays.length by omega])
  have hTd : p.tasks.getD tn task0 = p.tasks[tn] := by simp [List.getD_eq_getElem?_getD, htn]
  have hmd : m.arrays.getD tn [] = m.arrays[tn]'(by omega) := by simp [List.getD_eq_getElem?_getD, show tn < m.arrays.length by omega]
  unfold jobRun
  rw [hTd, hmd]
  have hmtn : m.arrays[tn]? = some (m.arrays[tn]'(by omega)) := by simp [show tn < m.arrays.length by omega]
  have hfe := hf.each _ (List.getElem_mem htn)
  generalize hmt : m.arrays[tn]'(by omega) = mt at *
  generalize hTT : p.tasks[tn] = TT at *
  obtain ⟨A5, c5, A6, c6, bs, rfl, g1, g2, g3, g4, g5⟩ := hrtR.ex
  have hbody := g5
  obtain ⟨A7, c7, rfl, g6, _⟩ := g5.kids
  apply RL.pur; (apply OpP.indexAddr; exact kEv; exact kEv; exact htn); exact rfl
  apply RL.pur; (apply OpP.loadA; exact kEv; exact HasAt.base hbt; exact hrt); exact rfl
  (apply RL.alloc; exact rfl; exact rfl; intro b13)
  refine kAutoB ?_
  (apply RL.storeW; exact kEv; exact kEv; exact kTake; exact rfl; exact rfl; exact rfl)
  refine kAutoB ?_
  refine RL.makeMap rfl Value.string (fun rv => ?_)
  refine RL.makeMap rfl Value.string (fun ra => ?_)
  refine kAutoB ?_
  (apply RL.build (r := .agg #[.map (some rv), .map (some ra), .slice Ai inp.length ci, .int .i64 fuel, .pointer (some ⟨b10, 0, none⟩)]); exact rfl; exact kEvl; (intro w; kernel_rfl); exact rfl)
  (apply RL.alloc; exact rfl; exact rfl; intro b14)
  (apply RL.storeA; exact kEv; exact kEv; exact kTake; exact rfl; exact rfl; exact rfl)
  refine kAutoB ?_
  have hvt : vs[tn]? = some (vs.getD tn undef) := by have := hL.l1; simp [List.getD_eq_getElem?_getD, show tn < vs.length by omega]
  have hut : uss[tn]? = some (uss.getD tn []) := by have := hL.l2; simp [List.getD_eq_getElem?_getD, show tn < uss.length by omega]
  have hlt1 := hL.each tn _ _ hut hmtn
  generalize vs.getD tn undef = vt at hvt
  generalize uss.getD tn [] = ust at hut hlt1
  subst hG
  generalize hR : cubM (vs.eraseIdx tn) (uss.eraseIdx tn) (m.arrays.eraseIdx tn) = R
  refine CJ.gives (M' := cel b14 114 [.map (some rv), .map (some ra), .slice Ai inp.length ci, .int .i64 fuel, .pointer (some ⟨b10, 0, none⟩)] :: mp Value.string ra (fun _ => none) :: mp Value.string rv (fun _ => none) :: cel b13 52 [.string TT.name, .int .i64 TT.period, .slice A5 TT.vars.length c5, .slice A6 TT.arrays.length c6, .int .u8 TT.body.kind, .int .i64 TT.body.num, .string TT.body.name, .slice A7 TT.body.kids.length c7] :: cel b10 37 [.slice vAA m.arrays.length vAc, .slice vSA m.shared.length vSc, .slice none 0 0, .int .i64 0, .int .i64 0, .int .i64 0] :: row 27 1 (.slice vAA m.arrays.length vAc) m.arrays.length vs :: row 30 1 vt mt.length ust :: row 30 1 (.slice vSA m.shared.length vSc) m.shared.length usS :: rcel b7 29 [.slice A3 m.arrays.length c3, v] :: rcel b5 25 [.slice A1 p.shared.length c1, .slice (some ⟨bt, ot, none⟩) p.tasks.length c2] :: (innerM (ust ++ usS) (mt ++ m.shared) ++ (R ++ F))) ?_ ?_
  · rw [innerM_append _ _ _ _ hlt1, ← hR]
    refine Gives.cons (Takes.here _ _) (Gives.cons (Takes.here _ _) (Gives.cons (Takes.here _ _) (Gives.cons (Takes.here _ _) (Gives.cons (Takes.here _ _) (Gives.cons (Takes.here _ _) (Gives.cons (Takes.there (Takes.there (Takes.head (cubM_takes hvt hut hmtn _)))) (Gives.cons (Takes.there (Takes.there (Takes.appR _ (Takes.appR _ (Takes.here _ _))))) (Gives.cons (Takes.here _ _) (Gives.cons (Takes.here _ _) Gives.reorg)))))))))
  generalize hZ : innerM (ust ++ usS) (mt ++ m.shared) ++ (R ++ F) = Z
  have hv0 : (fun _ => none : ByteArray → Option Value) = fun nm => (varsOf (TT.vars.take 0) nm).map intV := by funext nm; simp [varsOf]
  have hi0 : (fun _ => none : ByteArray → Option Value) = fun nm => (ixUp (arrNames (TT.arrays.take 0)) 0 (fun _ => none) nm).map fun j => (ust ++ usS).getD j undef := by funext nm; rfl
  refine CJ.loop (σ := Nat) (fun i => i ≤ TT.vars.length) (fun i => [(79, .int .i64 (i : Int)), (78, .int .i64 TT.vars.length), (77, .slice A5 TT.vars.length c5), (14, .pointer (some ⟨b14, 0, none⟩)), (13, .pointer (some ⟨b13, 0, none⟩)), (10, .pointer (some ⟨b10, 0, none⟩)), (7, .pointer (some ⟨b7, 0, none⟩)), (5, .pointer (some ⟨b5, 0, none⟩)), (1, .int .i64 (tn : Int))])
    (fun i => cel b14 114 [.map (some rv), .map (some ra), .slice Ai inp.length ci, .int .i64 fuel, .pointer (some ⟨b10, 0, none⟩)] :: mp Value.string ra (fun _ => none) :: mp Value.string rv (fun nm => (varsOf (TT.vars.take i) nm).map intV) :: cel b13 52 [.string TT.name, .int .i64 TT.period, .slice A5 TT.vars.length c5, .slice A6 TT.arrays.length c6, .int .u8 TT.body.kind, .int .i64 TT.body.num, .string TT.body.name, .slice A7 TT.body.kids.length c7] :: cel b10 37 [.slice vAA m.arrays.length vAc, .slice vSA m.shared.length vSc, .slice none 0 0, .int .i64 0, .int .i64 0, .int .i64 0] :: row 27 1 (.slice vAA m.arrays.length vAc) m.arrays.length vs :: row 30 1 vt mt.length ust :: row 30 1 (.slice vSA m.shared.length vSc) m.shared.length usS :: rcel b7 29 [.slice A3 m.arrays.length c3, v] :: rcel b5 25 [.slice A1 p.shared.length c1, .slice (some ⟨bt, ot, none⟩) p.tasks.length c2] :: Z)
    (fun i => TT.vars.length - i) 0 (Nat.zero_le _) (by exact kEsub) (by rw [← hv0]; exact kGives) ?_
  intro i hi
  refine kAutoB ?_
  cases hlt : decide ((i : Int) < (TT.vars.length : Int))
  case true =>
    have hlt' : i < TT.vars.length := by have := of_decide_eq_true hlt; omega
    obtain ⟨b, o, e, hrl', hb⟩ := g3.at_ i (by simpa using hlt')
    subst e
    simp only [List.getElem_map, strRow] at hb hrl'
    refine kAutoB ?_
    apply RL.pur; (apply OpP.indexAddr; exact kEv; exact kEv; exact hlt'); exact rfl
    apply RL.pur; (apply OpP.load; exact kEv; exact HasAt.base hb); exact rfl
    refine kAutoB ?_
    (apply RL.mapUpdate (enc := Value.string) (r := rv); exact kEv; exact kEv; exact kEv; exact kTake)
    refine kAutoB ?_
    rw [i64_succ i (by omega), vars_upd, ← varsOf_snoc, ← List.take_succ_eq_append_getElem hlt']
    exact XJ.round (i + 1) (by omega) (by omega) (by exact kEsub) (by exact kGives)
  have hge : i = TT.vars.length := by have := of_decide_eq_false hlt; omega
  subst hge
  rw [List.take_length]
  clear hlt hi
  refine kAutoB ?_
  rw [hi0]
  refine CJ.loop (σ := Nat) (fun i => i ≤ TT.arrays.length) (fun i => [(91, .int .i64 (i : Int)), (90, .int .i64 TT.arrays.length), (89, .slice A6 TT.arrays.length c6), (14, .pointer (some ⟨b14, 0, none⟩)), (13, .pointer (some ⟨b13, 0, none⟩)), (10, .pointer (some ⟨b10, 0, none⟩)), (7, .pointer (some ⟨b7, 0, none⟩)), (5, .pointer (some ⟨b5, 0, none⟩)), (1, .int .i64 (tn : Int))])
    (fun i => cel b14 114 [.map (some rv), .map (some ra), .slice Ai inp.length ci, .int .i64 fuel, .pointer (some ⟨b10, 0, none⟩)] :: mp Value.string ra (fun nm => (ixUp (arrNames (TT.arrays.take i)) 0 (fun _ => none) nm).map fun j => (ust ++ usS).getD j undef) :: mp Value.string rv (fun nm => (varsOf TT.vars nm).map intV) :: cel b13 52 [.string TT.name, .int .i64 TT.period, .slice A5 TT.vars.length c5, .slice A6 TT.arrays.length c6, .int .u8 TT.body.kind, .int .i64 TT.body.num, .string TT.body.name, .slice A7 TT.body.kids.length c7] :: cel b10 37 [.slice vAA m.arrays.length vAc, .slice vSA m.shared.length vSc, .slice none 0 0, .int .i64 0, .int .i64 0, .int .i64 0] :: row 27 1 (.slice vAA m.arrays.length vAc) m.arrays.length vs :: row 30 1 vt mt.length ust :: row 30 1 (.slice vSA m.shared.length vSc) m.shared.length usS :: rcel b7 29 [.slice A3 m.arrays.length c3, v] :: rcel b5 25 [.slice A1 p.shared.length c1, .slice (some ⟨bt, ot, none⟩) p.tasks.length c2] :: Z)
    (fun i => TT.arrays.length - i) 0 (Nat.zero_le _) (by exact kEsub) (by exact kGives) ?_
  intro i hi
  refine kAutoB ?_
  cases hlt : decide ((i : Int) < (TT.arrays.length : Int))
  case true =>
    have hlt' : i < TT.arrays.length := by have := of_decide_eq_true hlt; omega
    obtain ⟨b, o, e, hrl', hb⟩ := g4.at_ i (by simpa using hlt')
    subst e
    simp only [List.getElem_map, arrRow] at hb hrl'
    refine kAutoB ?_
    refine RL.fact (p := (∃ b c, Value.slice vAA m.arrays.length vAc = .slice (some ⟨b, 0, none⟩) m.arrays.length c) ∧ (∃ b c, vt = .slice (some ⟨b, 0, none⟩) mt.length c)) (fun h mm => ⟨row_ptr (by exact kTake) mm (by omega), row_ptr (by exact kTake) mm (by omega)⟩) ?_
    rintro ⟨⟨bA, cA, eA⟩, ⟨bT, cT, rfl⟩⟩
    simp only [Value.slice.injEq] at eA
    obtain ⟨rfl, -, rfl⟩ := eA
    apply RL.pur; (apply OpP.indexAddr; exact kEv; exact kEv; exact hlt'); exact rfl
    apply RL.pur; (apply OpP.loadA; exact kEv; exact HasAt.base hb; exact rfl); exact rfl
    (apply RL.alloc; exact rfl; exact rfl; intro b18)
    refine kAutoB ?_
    (apply RL.storeW; exact kEv; exact kEv; exact kTake; exact rfl; exact rfl; exact rfl)
    refine kAutoB ?_
    (refine CJ.draws mixed 14 [cel b14 _ _, cel b18 _ _, cel b10 _ _, row 27 1 _ _ _, row 30 1 (.slice (some ⟨bT, 0, none⟩) mt.length cT) mt.length ust] (by exact kGives) (dom_of (by kernel_rfl)) ?_)
    ((first | refine kAjB 0 ?_ | refine kAjS 0 ?_); (first | refine kAjB 1 ?_ | refine kAjS 1 ?_); (first | refine kAjB 2 ?_ | refine kAjS 2 ?_); (first | refine kAjB 3 ?_ | refine kAjS 3 ?_); (first | refine kAjB 4 ?_ | refine kAjS 4 ?_); (first | refine kAjB 5 ?_ | refine kAjS 5 ?_); (first | refine kAjB 6 ?_ | refine kAjS 6 ?_); (first | refine kAjB 7 ?_ | refine kAjS 7 ?_); (first | refine kAjB 8 ?_ | refine kAjS 8 ?_))
    (apply AJ.pur (i := 9); exact rfl; exact rfl; exact rfl; exact rfl; exact rfl; exact rfl; exact rfl; exact rfl; exact rfl; (apply OpP.indexAddr; exact kEv; exact kEv; exact (by omega)))
    (apply AJ.pur (i := 10); exact rfl; exact rfl; exact rfl; exact rfl; exact rfl; exact rfl; exact rfl; exact rfl; exact rfl; (apply OpP.load; exact kEv; exact row_at (by exact kTake) hvt))
    ((first | refine kAjB 11 ?_ | refine kAjS 11 ?_))
    (apply AJ.pur (i := 12); exact rfl; exact rfl; exact rfl; exact rfl; exact rfl; exact rfl; exact rfl; exact rfl; exact rfl; (apply OpP.indexAddr; exact kEv; exact kEv; exact (by omega)))
    (apply AJ.pur (i := 13); exact rfl; exact rfl; exact rfl; exact rfl; exact rfl; exact rfl; exact rfl; exact rfl; exact rfl; (apply OpP.load; exact kEv; exact row_at (x := ust[i]'(by omega)) (by exact kTake) (by simp [show i < ust.length by omega])))
    (refine AJ.tail (by kernel_rfl) (by kernel_rfl) rfl (by kernel_rfl) (by kernel_rfl) (by kernel_rfl) ?_)
    (apply RL.mapUpdate (enc := Value.string) (r := ra); exact kEv; exact kEv; exact kEv; exact kTake)
    refine kAutoB ?_
    have hnm : arrNames (TT.arrays.take (i + 1)) = arrNames (TT.arrays.take i) ++ [TT.arrays[i].name] := by
      unfold arrNames
      rw [List.take_succ_eq_append_getElem hlt', List.map_append]
      rfl
    have hnl : 0 + (arrNames (TT.arrays.take i)).length = i := by simp [arrNames]; omega
    rw [i64_succ i (by omega), arrs_upd _ _ _ i _ (by rw [List.getElem?_append_left (by omega)]; simp [show i < ust.length by omega])]
    refine XJ.round (i + 1) (by omega) (by omega) (by exact kEsub) ?_
    rw [hnm, ixUp_snoc, hnl]
    exact kGives
  have hge : i = TT.arrays.length := by have := of_decide_eq_false hlt; omega
  subst hge
  rw [List.take_length]
  clear hlt hi hi0 hv0
  refine kAutoB ?_
  refine CJ.loop (σ := Nat) (fun i => i ≤ p.shared.length) (fun i => [(114, .int .i64 (i : Int)), (113, .int .i64 p.shared.length), (112, .slice A1 p.shared.length c1), (14, .pointer (some ⟨b14, 0, none⟩)), (13, .pointer (some ⟨b13, 0, none⟩)), (10, .pointer (some ⟨b10, 0, none⟩)), (7, .pointer (some ⟨b7, 0, none⟩)), (5, .pointer (some ⟨b5, 0, none⟩)), (1, .int .i64 (tn : Int))])
    (fun i => cel b14 114 [.map (some rv), .map (some ra), .slice Ai inp.length ci, .int .i64 fuel, .pointer (some ⟨b10, 0, none⟩)] :: mp Value.string ra (fun nm => (ixUp (arrNames (p.shared.take i)) TT.arrays.length (ixUp (arrNames TT.arrays) 0 fun _ => none) nm).map fun j => (ust ++ usS).getD j undef) :: mp Value.string rv (fun nm => (varsOf TT.vars nm).map intV) :: cel b13 52 [.string TT.name, .int .i64 TT.period, .slice A5 TT.vars.length c5, .slice A6 TT.arrays.length c6, .int .u8 TT.body.kind, .int .i64 TT.body.num, .string TT.body.name, .slice A7 TT.body.kids.length c7] :: cel b10 37 [.slice vAA m.arrays.length vAc, .slice vSA m.shared.length vSc, .slice none 0 0, .int .i64 0, .int .i64 0, .int .i64 0] :: row 27 1 (.slice vAA m.arrays.length vAc) m.arrays.length vs :: row 30 1 vt mt.length ust :: row 30 1 (.slice vSA m.shared.length vSc) m.shared.length usS :: rcel b7 29 [.slice A3 m.arrays.length c3, v] :: rcel b5 25 [.slice A1 p.shared.length c1, .slice (some ⟨bt, ot, none⟩) p.tasks.length c2] :: Z)
    (fun i => p.shared.length - i) 0 (Nat.zero_le _) (by exact kEsub) (by exact kGives) ?_
  intro i hi
  refine kAutoB ?_
  cases hlt : decide ((i : Int) < (p.shared.length : Int))
  case true =>
    have hlt' : i < p.shared.length := by have := of_decide_eq_true hlt; omega
    obtain ⟨b, o, e, hrl', hb⟩ := h3.at_ i (by simpa using hlt')
    subst e
    simp only [List.getElem_map, arrRow] at hb hrl'
    refine kAutoB ?_
    refine RL.fact (p := ∃ b c, Value.slice vSA m.shared.length vSc = .slice (some ⟨b, 0, none⟩) m.shared.length c) (fun h mm => row_ptr (by exact kTake) mm (by omega)) ?_
    rintro ⟨bS, cS, eS⟩
    simp only [Value.slice.injEq] at eS
    obtain ⟨rfl, -, rfl⟩ := eS
    apply RL.pur; (apply OpP.indexAddr; exact kEv; exact kEv; exact hlt'); exact rfl
    apply RL.pur; (apply OpP.loadA; exact kEv; exact HasAt.base hb; exact rfl); exact rfl
    (apply RL.alloc; exact rfl; exact rfl; intro b20)
    refine kAutoB ?_
    (apply RL.storeW; exact kEv; exact kEv; exact kTake; exact rfl; exact rfl; exact rfl)
    refine kAutoB ?_
    (refine CJ.draws mixed 11 [cel b14 _ _, cel b20 _ _, cel b10 _ _, row 30 1 (.slice (some ⟨bS, 0, none⟩) m.shared.length vSc) m.shared.length usS] (by exact kGives) (dom_of (by kernel_rfl)) ?_)
    ((first | refine kAjB 0 ?_ | refine kAjS 0 ?_); (first | refine kAjB 1 ?_ | refine kAjS 1 ?_); (first | refine kAjB 2 ?_ | refine kAjS 2 ?_); (first | refine kAjB 3 ?_ | refine kAjS 3 ?_); (first | refine kAjB 4 ?_ | refine kAjS 4 ?_); (first | refine kAjB 5 ?_ | refine kAjS 5 ?_); (first | refine kAjB 6 ?_ | refine kAjS 6 ?_); (first | refine kAjB 7 ?_ | refine kAjS 7 ?_); (first | refine kAjB 8 ?_ | refine kAjS 8 ?_))
    (apply AJ.pur (i := 9); exact rfl; exact rfl; exact rfl; exact rfl; exact rfl; exact rfl; exact rfl; exact rfl; exact rfl; (apply OpP.indexAddr; exact kEv; exact kEv; exact (by omega)))
    (apply AJ.pur (i := 10); exact rfl; exact rfl; exact rfl; exact rfl; exact rfl; exact rfl; exact rfl; exact rfl; exact rfl; (apply OpP.load; exact kEv; exact row_at (x := usS[i]'(by omega)) (by exact kTake) (by simp [show i < usS.length by omega])))
    (refine AJ.tail (by kernel_rfl) (by kernel_rfl) rfl (by kernel_rfl) (by kernel_rfl) (by kernel_rfl) ?_)
    (apply RL.mapUpdate (enc := Value.string) (r := ra); exact kEv; exact kEv; exact kEv; exact kTake)
    refine kAutoB ?_
    have hnm : arrNames (p.shared.take (i + 1)) = arrNames (p.shared.take i) ++ [p.shared[i].name] := by
      unfold arrNames
      rw [List.take_succ_eq_append_getElem hlt', List.map_append]
      rfl
    have hnl : TT.arrays.length + (arrNames (p.shared.take i)).length = TT.arrays.length + i := by simp [arrNames]; omega
    rw [i64_succ i (by omega), arrs_upd _ _ _ (TT.arrays.length + i) _ (by rw [List.getElem?_append_right (by omega), show TT.arrays.length + i - ust.length = i by omega]; simp [show i < usS.length by omega])]
    refine XJ.round (i + 1) (by omega) (by omega) (by exact kEsub) ?_
    rw [hnm, ixUp_snoc, hnl]
    exact kGives
  have hge : i = p.shared.length := by have := of_decide_eq_false hlt; omega
  subst hge
  rw [List.take_length]
  clear hlt hi
  refine kAutoB ?_
  subst hZ
  have hcl : (mt ++ m.shared).length = (ust ++ usS).length := by simp only [List.length_append]; omega
  generalize hJ : (⟨b14, rv, ra, b10, ust ++ usS, .slice Ai inp.length ci, .slice vAA m.arrays.length vAc, .slice vSA m.shared.length vSc⟩ : JP) = J
  generalize hE : jobE TT p inp fuel = E
  generalize hs0 : job0 TT mt m.shared = s0
  have kF : JobF w0 J E ((mt ++ m.shared).map List.length) := by
    subst hJ hE
    refine ⟨by simp only [List.length_map]; omega, ?_, ?_, hfu, hinV, hi32, hil⟩
    · intro nm j hj
      simp only [List.length_map, List.length_append]
      refine ixUp_lt _ _ _ _ ?_ ?_ nm j hj
      · intro nm j hj
        exact Nat.lt_of_lt_of_le (ixUp_lt (arrNames TT.arrays) 0 _ (arrNames TT.arrays).length (fun _ _ h => by cases h) (by omega) nm j hj) (by simp [arrNames]; omega)
      · simp [arrNames]; omega
    · intro x hx
      simp only [List.mem_map, List.mem_append] at hx
      obtain ⟨l, hl, rfl⟩ := hx
      rcases hl with hl | hl
      · have := q6 l hl; omega
      · have := hF.se l hl; omega
  have o0 : OKJ E ((mt ++ m.shared).map List.length) s0 := by
    subst hs0
    refine ⟨?_, ?_, rfl, Nat.le_refl _, Nat.le_refl _, .inl rfl⟩
    · intro nm x hx
      simp only [job0, varsOf] at hx
      split at hx
      · injection hx with hx; subst hx; exact .zero
      · cases hx
    · intro l hl x hx
      simp only [job0, List.mem_append] at hl
      rcases hl with hl | hl
      · exact h32.arrays mt (List.mem_of_getElem? hmtn) l hl x hx
      · exact h32.shared l hl x hx
  refine RL.frz (A := cel b14 114 _) (by exact kTake) Frz.pt ?_
  refine RL.frz (A := mp Value.string ra _) (by exact kTake) Frz.mp ?_
  refine RL.gives (row_nil 106 2) ?_
  generalize hZ1 : row 27 1 (.slice vAA m.arrays.length vAc) m.arrays.length vs :: row 30 1 vt mt.length ust :: row 30 1 (.slice vSA m.shared.length vSc) m.shared.length usS :: (R ++ F) = Z1
  refine RL.gives (M' := cel b13 52 [.string TT.name, .int .i64 TT.period, .slice A5 TT.vars.length c5, .slice A6 TT.arrays.length c6, .int .u8 TT.body.kind, .int .i64 TT.body.num, .string TT.body.name, .slice A7 TT.body.kids.length c7] :: (jobM J E s0 none 0 ++ Z1)) ?_ ?_
  · subst hJ hE hs0 hZ1
    refine Gives.cons (by exact kTake) (Gives.cons (by exact kTake) (Gives.cons (by exact kTake) (Gives.cons (by exact kTake) (Gives.cons (by exact kTake) (Gives.cons (by exact kTake) ?_)))))
    refine Gives.trans (B := row 27 1 (.slice vAA m.arrays.length vAc) m.arrays.length vs :: row 30 1 vt mt.length ust :: row 30 1 (.slice vSA m.shared.length vSc) m.shared.length usS :: (innerM (ust ++ usS) (mt ++ m.shared) ++ (R ++ F))) (by exact kGives) Gives.under3
  refine RL.defer (cap := [.pointer (some ⟨b10, 0, none⟩)]) (by exact kEv) ?_
  refine RLD.nil ?_
  refine XJD.next ?_
  refine CJD.seq ?_
  refine CJD.region ?_
  (apply RLD.pur; exact kPureB; exact rfl)
  (apply RLD.pur; exact kPureB; exact rfl)
  have hts : TT.body.size < 4611686018427387904 := by omega
  have hblk := block_spec w0 kF TT.body hts q4 (fun x hx => exec_spec w0 kF _ x (Nat.le_refl _) (by have := Node.size_kid hx; omega) (block_kids q4 x hx)) s0 none 0 _ o0 hbody
  have hokr := execN_ok TT.body (E := E) (by subst hE; exact hi32) o0
  generalize hr : execN E TT.body s0 = r at hblk hokr
  have hcells : r.1.cells.length = mt.length + m.shared.length := by have := hokr.len; simpa using this
  have hG1 : ∀ (s1 : JS) (A : Option Addr) (c : Nat), s1.cells.length = mt.length + m.shared.length → Gives (row 106 2 (.slice A s1.out.length c) s1.out.length (outCells s1.out) :: (innerM (ust ++ usS) s1.cells ++ Z1)) ((cubA (.slice vAA m.arrays.length vAc) vs uss (m.arrays.set tn (s1.cells.take mt.length)) ++ (matM (.slice vSA m.shared.length vSc) usS (s1.cells.drop mt.length) ++ [row 106 2 (.slice A s1.out.length c) s1.out.length (outCells s1.out)])) ++ F) := by
    intro s1 A c hc
    have hI : innerM (ust ++ usS) s1.cells = innerM ust (s1.cells.take mt.length) ++ innerM usS (s1.cells.drop mt.length) := by
      rw [← innerM_append _ _ _ _ (by simp only [List.length_take]; omega), List.take_append_drop]
    have hq : (m.arrays.set tn (s1.cells.take mt.length))[tn]? = some (s1.cells.take mt.length) := by simp [show tn < m.arrays.length by omega]
    have hp := cubM_take tn vs uss _ vt ust _ hvt hut hq
    rw [eraseIdx_set, hR] at hp
    have l1 : (m.arrays.set tn (s1.cells.take mt.length)).length = m.arrays.length := by simp
    have l2 : (s1.cells.take mt.length).length = mt.length := by simp only [List.length_take]; omega
    have l3 : (s1.cells.drop mt.length).length = m.shared.length := by simp only [List.length_drop]; omega
    unfold matM at hp ⊢
    unfold cubA
    rw [l2] at hp
    rw [l1, l3, hI, ← hZ1]
    unfold Gives
    intro h mm
    refine star.perm ?_ mm
    clear mm
    letI : DecidableEq HProp := fun a b => Classical.propDecidable (a = b)
    refine List.perm_iff_count.2 (fun x => ?_)
    have hc := hp.count_eq x
    simp only [List.count_append, List.count_cons, List.count_nil] at hc ⊢
    omega
  have hR1 : ∀ (s1 : JS) (A : Option Addr) (c : Nat) (e : Int), s1.cells.length = mt.length + m.shared.length → ∀ b w h F, star ((cubA (.slice vAA m.arrays.length vAc) vs uss (m.arrays.set tn (s1.cells.take mt.length)) ++ (matM (.slice vSA m.shared.length vSc) usS (s1.cells.drop mt.length) ++ [row 106 2 (.slice A s1.out.length c) s1.out.length (outCells s1.out)])) ++ F) h → Go.Proofs.YtgmapenlgammfaaGreatDoor.Sat b w h → ResR w [(.slice vAA m.arrays.length vAc), (.slice vSA m.shared.length vSc), .slice A s1.out.length c, .int .i64 s1.read, .int .i64 s1.steps, .int .i64 e] ⟨⟨m.arrays.set tn (s1.cells.take mt.length), s1.cells.drop mt.length⟩, s1.out, s1.read, s1.steps, e⟩ := by
    intro s1 A c e hc b w h F mm sa
    have l2 : (s1.cells.take mt.length).length = mt.length := by simp only [List.length_take]; omega
    have l3 : (s1.cells.drop mt.length).length = m.shared.length := by simp only [List.length_drop]; omega
    refine ⟨_, _, _, rfl, cubA_R (hL.set hmtn l2) (Takes.sub (Takes.app _ _)) mm sa, matM_R (by rw [husS, l3]) (Takes.sub (Takes.appR _ (Takes.app _ _))) mm sa, row_outs (Takes.sub (Takes.appR _ (Takes.appR _ (Takes.here _ _)))) mm sa⟩
  have hM1 : ∀ (s1 : JS) (A : Option Addr) (c : Nat), Gives (jobM J E s1 A c ++ (cel b13 52 [.string TT.name, .int .i64 TT.period, .slice A5 TT.vars.length c5, .slice A6 TT.arrays.length c6, .int .u8 TT.body.kind, .int .i64 TT.body.num, .string TT.body.name, .slice A7 TT.body.kids.length c7] :: Z1)) (cel b10 37 [(.slice vAA m.arrays.length vAc), (.slice vSA m.shared.length vSc), .slice A s1.out.length c, .int .i64 s1.read, .int .i64 s1.steps, .int .i64 0] :: row 106 2 (.slice A s1.out.length c) s1.out.length (outCells s1.out) :: (innerM (ust ++ usS) s1.cells ++ Z1)) := by
    intro s1 A c
    subst hJ
    exact Gives.cons (Takes.there (Takes.there (Takes.there (Takes.here _ _)))) (Gives.cons (Takes.there (Takes.there (Takes.there (Takes.here _ _)))) (Gives.drop (Gives.drop (Gives.drop (Takes.drop2 _ _ _)))))
  have hJb : J.bm = b14 := by subst hJ; rfl
  rw [hJb] at hblk
  refine RLD.s (OpS.callO hblk (by exact kEv) inferInstance (by exact kEvl) (by exact rfl) (Takes.there1 (Takes.app _ _))) rfl ?_ ?_
  · rintro _ _ ⟨N', ⟨hn, rfl, A, c, rfl⟩, rfl⟩
    refine RLD.gives (hM1 r.1 A c) ?_
    refine RLD.nil ?_
    refine XJD.next ?_
    refine CJD.seq ?_
    refine CJD.region ?_
    (apply RLD.pur; exact kPureB; exact rfl)
    (apply RLD.storeW; exact kEv; exact kEv; exact Takes.here _ _; exact rfl; exact rfl; exact rfl)
    refine RLD.nil ?_
    refine XJD.next ?_
    refine CJD.ret ?_
    refine XJD.leave inferInstance (job1_none w0 b10 _) ?_
    refine XJ.retC rfl rfl (HasAt.pt (Takes.here _ _) atAll) rfl _ (Gives.drop (hG1 r.1 A c hcells)) ⟨_, rfl, ?_⟩
    intro b w h F mm sa
    have := hR1 r.1 A c (r.2.getD 0) hcells b w h F mm sa
    rw [hn] at this
    unfold jobFin
    rw [hn]
    exact this
  · rintro pp _ ⟨N', ⟨e, hn, rfl, A, c, rfl⟩, rfl⟩
    refine XJD.then_panic ?_
    refine XJD.gives (hM1 r.1 A c) ?_
    refine XJD.caught inferInstance (job1_some w0 b10 _ e _ _ _ _ _ _ _) ?_
    refine XJ.retC rfl rfl (HasAt.pt (Takes.here _ _) atAll) rfl _ (Gives.drop (hG1 r.1 A c hcells)) ⟨_, rfl, ?_⟩
    intro b w h F mm sa
    have := hR1 r.1 A c (r.2.getD 0) hcells b w h F mm sa
    rw [hn] at this
    unfold jobFin
    rw [hn]
    exact this
end Go.Proofs.YtgmapenlgammfaaGreatDoor
