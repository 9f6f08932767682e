/- The law's comparisons: lists, outputs, memories, results. -/
import Derived.Test.YtgmapenlgammfaaGreatDoorMemO
import Derived.Laws.StructEq
set_option linter.all false
namespace Go.Proofs.YtgmapenlgammfaaGreatDoor
open Go
theorem i64_up (i : Nat) (h : (i : Int) < 9223372036854775807) : IntKind.i64.wrap ((i : Int) + 1) = ((i + 1 : Nat) : Int) := by
  simp only [IntKind.wrap, IntKind.signed, IntKind.bits]
  simp
  omega
theorem take_step {α : Type} {a b : List α} {i : Nat} (h1 : i < a.length) (h2 : i < b.length) (h : a.take i = b.take i) (e : a[i] = b[i]) : a.take (i + 1) = b.take (i + 1) := by
  rw [List.take_succ_eq_append_getElem h1, List.take_succ_eq_append_getElem h2, h, e]
theorem MatR.at_ {w : World} {v : Value} {m : List (List Int)} (h : MatR w v m) : ∃ A c, v = .slice A m.length c ∧ m.length ≤ c ∧ ∀ i (hi : i < m.length), ∃ b o A1 c1, A = some ⟨b, o, none⟩ ∧ Base w b (o + i * 1) [.slice A1 (m[i]'hi).length c1] ∧ (m[i]'hi).length ≤ c1 ∧ RowsB w 1 A1 (((m[i]'hi).map intV).map fun u => [u]) := by
  obtain ⟨A, c, us, rfl, hc, hl, hr, hin⟩ := h
  refine ⟨A, c, rfl, hc, ?_⟩
  intro i hi
  obtain ⟨b, o, e, _, hb⟩ := hr.at_ i (by simpa using (by omega : i < us.length))
  simp only [List.getElem_map] at hb
  obtain ⟨A1, c1, e1, e2, e3⟩ := hin i m[i] (us[i]'(by omega)) (by simp [hi]) (by simp [show i < us.length by omega])
  rw [e1] at hb
  exact ⟨b, o, A1, c1, e, hb, e2, e3⟩
theorem CubR.at_ {w : World} {v : Value} {q : List (List (List Int))} (h : CubR w v q) : ∃ A c, v = .slice A q.length c ∧ q.length ≤ c ∧ ∀ i (hi : i < q.length), ∃ b o u, A = some ⟨b, o, none⟩ ∧ Base w b (o + i * 1) [u] ∧ MatR w u (q[i]'hi) := by
  obtain ⟨A, c, us, rfl, hc, hl, hr, hin⟩ := h
  refine ⟨A, c, rfl, hc, ?_⟩
  intro i hi
  obtain ⟨b, o, e, _, hb⟩ := hr.at_ i (by simpa using (by omega : i < us.length))
  simp only [List.getElem_map] at hb
  exact ⟨b, o, us[i]'(by omega), e, hb, hin i q[i] (us[i]'(by omega)) (by simp [hi]) (by simp [show i < us.length by omega])⟩
/-- A list of lists that a machine can hold. -/
def MatL (m : List (List Int)) : Prop := m.length ≤ maxLen ∧ ∀ l ∈ m, l.length ≤ maxLen
theorem lists_spec (w0 : World) (u v : Value) (a b : List (List Int)) (ha : MatR w0 u a) (hb : MatR w0 v b) (hl : MatL a) :
    Spec Tryz.prog w0 18 #[u, v] [] (Is (.bool (decide (a = b)))) := by
  obtain ⟨A, c, rfl, hc, ha⟩ := ha.at_
  obtain ⟨B, d, rfl, hd, hb⟩ := hb.at_
  obtain ⟨hl1, hl2⟩ := hl
  simp only [maxLen] at hl1 hl2
  refine Spec.enter (args := [_, _]) Tryz.func18 rfl rfl rfl (fun F => ?_)
  refine kAutoB ?_
  cases hne : ((a.length : Int) != (b.length : Int))
  case true =>
    have hn : a.length ≠ b.length := by simp at hne; omega
    refine kAutoB ?_
    refine XJ.ret1 rfl rfl [] (by exact kGives) ⟨?_, rfl⟩
    rw [decide_eq_false (fun e => hn (by rw [e]))]
  have hlen : a.length = b.length := by simp at hne; omega
  refine kAutoB ?_
  refine CJ.loop (σ := Nat) (fun i => i ≤ a.length ∧ a.take i = b.take i) (fun i => [(14, .int .i64 (i : Int)), (13, .int .i64 a.length), (0, .slice A a.length c), (1, .slice B b.length d)]) (fun _ => F) (fun i => a.length - i) 0 ⟨Nat.zero_le _, rfl⟩ (by exact kEsub) (by exact kGives) ?_
  rintro i ⟨hi, he⟩
  refine kAutoB ?_
  cases hlt : decide ((i : Int) < (a.length : Int))
  · have hge : i = a.length := by have := of_decide_eq_false hlt; omega
    refine kAutoB ?_
    refine XJ.ret1 rfl rfl [] (by exact kGives) ⟨?_, rfl⟩
    rw [hge, List.take_length, hlen, List.take_length] at he
    rw [decide_eq_true he]
  have hlt' : i < a.length := by have := of_decide_eq_true hlt; omega
  have hlt2 : i < b.length := by omega
  obtain ⟨b1, o1, A1, c1, rfl, hb1, hc1, hr1⟩ := ha i hlt'
  obtain ⟨b2, o2, A2, c2, rfl, hb2, hc2, hr2⟩ := hb i hlt2
  have hai := hl2 _ (List.getElem_mem hlt')
  refine kAutoB ?_
  (refine CJ.draws mixed 11 _ (by exact kGives) (dom_of (by kernel_rfl)) ?_)
  ((first | refine kAjB 0 ?_ | refine kAjS 0 ?_); (first | refine kAjB 1 ?_ | refine kAjS 1 ?_))
  (apply AJ.pur (i := 2); exact rfl; exact rfl; exact rfl; exact rfl; exact rfl; exact rfl; exact rfl; exact rfl; exact rfl; (apply OpP.indexAddr; exact kEv; exact kEv; exact hlt'))
  ((first | refine kAjB 3 ?_ | refine kAjS 3 ?_); (first | refine kAjB 4 ?_ | refine kAjS 4 ?_); (first | refine kAjB 5 ?_ | refine kAjS 5 ?_); (first | refine kAjB 6 ?_ | refine kAjS 6 ?_))
  (apply AJ.pur (i := 7); exact rfl; exact rfl; exact rfl; exact rfl; exact rfl; exact rfl; exact rfl; exact rfl; exact rfl; (apply OpP.indexAddr; exact kEv; exact kEv; exact hlt2))
  ((first | refine kAjB 8 ?_ | refine kAjS 8 ?_); (first | refine kAjB 9 ?_ | refine kAjS 9 ?_); (first | refine kAjB 10 ?_ | refine kAjS 10 ?_))
  (refine AJ.done (by kernel_rfl) (by kernel_rfl) rfl (by kernel_rfl) ?_)
  refine kAutoB ?_
  cases hne2 : (((a[i]'hlt').length : Int) != ((b[i]'hlt2).length : Int))
  case true =>
    have hn : (a[i]'hlt').length ≠ (b[i]'hlt2).length := by simp at hne2; omega
    refine kAutoB ?_
    refine XJ.ret1 rfl rfl [] (by exact kGives) ⟨?_, rfl⟩
    rw [decide_eq_false (fun e => hn (by subst e; rfl))]
  have hlen2 : (a[i]'hlt').length = (b[i]'hlt2).length := by simp at hne2; omega
  refine kAutoB ?_
  apply RL.pur; (apply OpP.indexAddr; exact kEv; exact kEv; exact hlt'); exact rfl
  refine kAutoB ?_
  refine CJ.loop (σ := Nat) (fun k => k ≤ (a[i]'hlt').length ∧ (a[i]'hlt').take k = (b[i]'hlt2).take k) (fun k => [(33, .int .i64 (k : Int)), (32, .int .i64 (a[i]'hlt').length), (14, .int .i64 (i : Int)), (5, .int .i64 (i : Int)), (13, .int .i64 a.length), (0, .slice (some ⟨b1, o1, none⟩) a.length c), (1, .slice (some ⟨b2, o2, none⟩) b.length d)]) (fun _ => F) (fun k => (a[i]'hlt').length - k) 0 ⟨Nat.zero_le _, rfl⟩ (by exact kEsub) (by exact kGives) ?_
  rintro k ⟨hk, hek⟩
  refine kAutoB ?_
  cases hkt : decide ((k : Int) < ((a[i]'hlt').length : Int))
  · have hke : k = (a[i]'hlt').length := by have := of_decide_eq_false hkt; omega
    refine kAutoB ?_
    rw [i64_up i (by omega)]
    refine XJ.round (i + 1) ⟨by omega, take_step hlt' hlt2 he ?_⟩ (by omega) (by exact kEsub) (by exact kGives)
    rw [hke, List.take_length, hlen2, List.take_length] at hek
    exact hek
  have hkt' : k < (a[i]'hlt').length := by have := of_decide_eq_true hkt; omega
  have hkt2 : k < (b[i]'hlt2).length := by omega
  obtain ⟨b3, o3, e3, _, hb3⟩ := hr1.at_ k (by simpa using hkt')
  obtain ⟨b4, o4, e4, _, hb4⟩ := hr2.at_ k (by simpa using hkt2)
  subst e3 e4
  simp only [List.getElem_map, intV] at hb3 hb4
  refine kAutoB ?_
  (refine CJ.draws mixed 15 _ (by exact kGives) (dom_of (by kernel_rfl)) ?_)
  ((first | refine kAjB 0 ?_ | refine kAjS 0 ?_); (first | refine kAjB 1 ?_ | refine kAjS 1 ?_))
  (apply AJ.pur (i := 2); exact rfl; exact rfl; exact rfl; exact rfl; exact rfl; exact rfl; exact rfl; exact rfl; exact rfl; (apply OpP.indexAddr; exact kEv; exact kEv; exact hlt'))
  ((first | refine kAjB 3 ?_ | refine kAjS 3 ?_); (first | refine kAjB 4 ?_ | refine kAjS 4 ?_))
  (apply AJ.pur (i := 5); exact rfl; exact rfl; exact rfl; exact rfl; exact rfl; exact rfl; exact rfl; exact rfl; exact rfl; (apply OpP.indexAddr; exact kEv; exact kEv; exact hkt'))
  ((first | refine kAjB 6 ?_ | refine kAjS 6 ?_); (first | refine kAjB 7 ?_ | refine kAjS 7 ?_); (first | refine kAjB 8 ?_ | refine kAjS 8 ?_))
  (apply AJ.pur (i := 9); exact rfl; exact rfl; exact rfl; exact rfl; exact rfl; exact rfl; exact rfl; exact rfl; exact rfl; (apply OpP.indexAddr; exact kEv; exact kEv; exact hlt2))
  ((first | refine kAjB 10 ?_ | refine kAjS 10 ?_); (first | refine kAjB 11 ?_ | refine kAjS 11 ?_))
  (apply AJ.pur (i := 12); exact rfl; exact rfl; exact rfl; exact rfl; exact rfl; exact rfl; exact rfl; exact rfl; exact rfl; (apply OpP.indexAddr; exact kEv; exact kEv; exact hkt2))
  ((first | refine kAjB 13 ?_ | refine kAjS 13 ?_); (first | refine kAjB 14 ?_ | refine kAjS 14 ?_))
  (refine AJ.done (by kernel_rfl) (by kernel_rfl) rfl (by kernel_rfl) ?_)
  refine kAutoB ?_
  cases hx : ((a[i]'hlt')[k]'hkt' != (b[i]'hlt2)[k]'hkt2)
  case true =>
    have hn : (a[i]'hlt')[k]'hkt' ≠ (b[i]'hlt2)[k]'hkt2 := by simpa using hx
    refine kAutoB ?_
    refine XJ.ret1 rfl rfl [] (by exact kGives) ⟨?_, rfl⟩
    rw [decide_eq_false (fun e => hn (by subst e; rfl))]
  have hn : (a[i]'hlt')[k]'hkt' = (b[i]'hlt2)[k]'hkt2 := by simpa using hx
  refine kAutoB ?_
  rw [i64_up k (by omega)]
  exact XJ.round (k + 1) ⟨by omega, take_step hkt' hkt2 hek hn⟩ (by omega) (by exact kEsub) (by exact kGives)
/-! two structs of two numbers -/
def scaI (P : Program) (t : TypeId) : Bool := (match P.underlying t with
  | some (.int _) => true
  | _ => false) && decide (aggB P t = some (false, 1))
def eq2B (P : Program) (T : TypeId) : Bool := match (P.fieldsOf T).toList with
  | [f, g] => decide (f.name ≠ "_") && decide (g.name ≠ "_") && decide (f.offset = 0) && decide (g.offset = 1) && scaI P f.type && scaI P g.type
  | _ => false
theorem scaI_part {P : Program} {t : TypeId} (h : scaI P t = true) (cs : Array Value) (o : Nat) (v : Value) (w : World) (hv : cs[o]? = some v) : (part t cs o).run P w = .ok v w := by
  unfold scaI at h
  simp only [Bool.and_eq_true, decide_eq_true_eq] at h
  simp [part, (aggB_run h.2 w).1, hv]
theorem scaI_eq {P : Program} {t : TypeId} (h : scaI P t = true) (d : Nat) (k : IntKind) (a b : Int) (w : World) : (Op.equalIn (d + 1) t (.int k a) (.int k b)).run P w = .ok (a == b) w := by
  unfold scaI at h
  simp only [Bool.and_eq_true] at h
  cases hu : P.underlying t with
  | none => rw [hu] at h; simp at h
  | some dd =>
    rw [hu] at h
    cases dd <;> simp at h
    exact run_equalIn_int w d t k _ a b hu
theorem run_eq2 {P : Program} {T : TypeId} (h : eq2B P T = true) (hs : P.underlying T = some (.struct (P.fieldsOf T))) (hp : P.stoodInHeld T = false) (k1 k2 : IntKind) (a b c d : Int) (w : World) :
    (Op.equalIn 10000 T (.agg #[.int k1 a, .int k2 b]) (.agg #[.int k1 c, .int k2 d])).run P w = .ok (a == c && b == d) w := by
  rw [show (10000 : Nat) = 9999 + 1 from rfl, run_equalIn_struct w 9999 _ _ _ hs hp]
  unfold eq2B at h
  split at h
  · rename_i f g hfg
    rw [hfg]
    simp only [Bool.and_eq_true, decide_eq_true_eq] at h
    obtain ⟨⟨⟨⟨⟨h1, h2⟩, h3⟩, h4⟩, h5⟩, h6⟩ := h
    have p1 := scaI_part h5 #[.int k1 a, .int k2 b] 0 (.int k1 a) w rfl
    have p2 := scaI_part h5 #[.int k1 c, .int k2 d] 0 (.int k1 c) w rfl
    have p3 := scaI_part h6 #[.int k1 a, .int k2 b] 1 (.int k2 b) w rfl
    have p4 := scaI_part h6 #[.int k1 c, .int k2 d] 1 (.int k2 d) w rfl
    have e1 := scaI_eq h5 9998 k1 a c w
    have e2 := scaI_eq h6 9998 k2 b d w
    simp only [Op.eqFields, Sem.run_ite, h3, h4, Sem.run_bind, p1, p2, p3, p4, e1, e2, Result.andThen_ok, Sem.run_pure]
    rw [if_pos h1]
    cases a == c
    · simp
    · simp only [Bool.not_true, Bool.false_eq_true, if_false, Bool.true_and]
      rw [if_pos h2]
      cases b == d <;> simp
  · cases h
section
attribute [local semireducible] OpP Ev
theorem OpP.neq2 {P : Program} {w0 : World} {L : Env} {M : List HProp} {dd : Option Tmp} {T : TypeId} {p : String} {af : Array Edge} {gg : Option (Nat × Bool)} {t u : TypeId} {x y : Operand} {k1 k2 : IntKind} {a b c d : Int} (h : eq2B P t = true) (hs : P.underlying t = some (.struct (P.fieldsOf t))) (hp : P.stoodInHeld t = false) (hm : P.eqGuardType P.depth t = false)
    (hx : Ev L x (.agg #[.int k1 a, .int k2 b])) (hy : Ev L y (.agg #[.int k1 c, .int k2 d])) : OpP P w0 L M ⟨dd, .binOp .neq t x y u, T, p, af, gg⟩ (.bool (!(a == c && b == d))) := fun n ac w hh s _ _ => by
  simp only [Go.execOp, hx n ac s, hy n ac s, Sem.run_bind, run_eqGuard_agg w _ _ _ _ _ _ hm, Result.andThen_ok, run_neq_struct, run_eq2 h hs hp, Sem.run_pure]
theorem OpP.eql2 {P : Program} {w0 : World} {L : Env} {M : List HProp} {dd : Option Tmp} {T : TypeId} {p : String} {af : Array Edge} {gg : Option (Nat × Bool)} {t u : TypeId} {x y : Operand} {k1 k2 : IntKind} {a b c d : Int} (h : eq2B P t = true) (hs : P.underlying t = some (.struct (P.fieldsOf t))) (hp : P.stoodInHeld t = false) (hm : P.eqGuardType P.depth t = false)
    (hx : Ev L x (.agg #[.int k1 a, .int k2 b])) (hy : Ev L y (.agg #[.int k1 c, .int k2 d])) : OpP P w0 L M ⟨dd, .binOp .eql t x y u, T, p, af, gg⟩ (.bool (a == c && b == d)) := fun n ac w hh s _ _ => by
  simp only [Go.execOp, hx n ac s, hy n ac s, Sem.run_bind, run_eqGuard_agg w _ _ _ _ _ _ hm, Result.andThen_ok, run_eql_struct, run_eq2 h hs hp, Sem.run_pure]
end
theorem outputs_spec (w0 : World) (u v : Value) (a b : List (Int × Int)) (ha : OutsR w0 u a) (hb : OutsR w0 v b) (hl : a.length ≤ maxLen) :
    Spec Tryz.prog w0 24 #[u, v] [] (Is (.bool (decide (a = b)))) := by
  obtain ⟨A, c, rfl, hc, ha⟩ := ha
  obtain ⟨B, d, rfl, hd, hb⟩ := hb
  simp only [maxLen] at hl
  refine Spec.enter (args := [_, _]) Tryz.func24 rfl rfl rfl (fun F => ?_)
  refine kAutoB ?_
  cases hne : ((a.length : Int) != (b.length : Int))
  case true =>
    have hn : a.length ≠ b.length := by simp at hne; omega
    refine kAutoB ?_
    refine XJ.ret1 rfl rfl [] (by exact kGives) ⟨?_, rfl⟩
    rw [decide_eq_false (fun e => hn (by rw [e]))]
  have hlen : a.length = b.length := by simp at hne; omega
  refine kAutoB ?_
  refine CJ.loop (σ := Nat) (fun i => i ≤ a.length ∧ a.take i = b.take i) (fun i => [(13, .int .i64 (i : Int)), (12, .int .i64 a.length), (0, .slice A a.length c), (1, .slice B b.length d)]) (fun _ => F) (fun i => a.length - i) 0 ⟨Nat.zero_le _, rfl⟩ (by exact kEsub) (by exact kGives) ?_
  rintro i ⟨hi, he⟩
  refine kAutoB ?_
  cases hlt : decide ((i : Int) < (a.length : Int))
  · have hge : i = a.length := by have := of_decide_eq_false hlt; omega
    refine kAutoB ?_
    refine XJ.ret1 rfl rfl [] (by exact kGives) ⟨?_, rfl⟩
    rw [hge, List.take_length, hlen, List.take_length] at he
    rw [decide_eq_true he]
  have hlt' : i < a.length := by have := of_decide_eq_true hlt; omega
  have hlt2 : i < b.length := by omega
  obtain ⟨b1, o1, rfl, hl1, hb1⟩ := ha.at_ i (by simpa using hlt')
  obtain ⟨b2, o2, rfl, hl2, hb2⟩ := hb.at_ i (by simpa using hlt2)
  simp only [List.getElem_map, intV] at hb1 hb2
  refine kAutoB ?_
  (refine CJ.draws mixed 9 _ (by exact kGives) (dom_of (by kernel_rfl)) ?_)
  ((first | refine kAjB 0 ?_ | refine kAjS 0 ?_); (first | refine kAjB 1 ?_ | refine kAjS 1 ?_))
  (apply AJ.pur (i := 2); exact rfl; exact rfl; exact rfl; exact rfl; exact rfl; exact rfl; exact rfl; exact rfl; exact rfl; (apply OpP.indexAddr; exact kEv; exact kEv; exact hlt'))
  (apply AJ.pur (i := 3); exact rfl; exact rfl; exact rfl; exact rfl; exact rfl; exact rfl; exact rfl; exact rfl; exact rfl; (apply OpP.loadA; exact kEv; exact HasAt.base hb1; exact rfl))
  ((first | refine kAjB 4 ?_ | refine kAjS 4 ?_); (first | refine kAjB 5 ?_ | refine kAjS 5 ?_))
  (apply AJ.pur (i := 6); exact rfl; exact rfl; exact rfl; exact rfl; exact rfl; exact rfl; exact rfl; exact rfl; exact rfl; (apply OpP.indexAddr; exact kEv; exact kEv; exact hlt2))
  (apply AJ.pur (i := 7); exact rfl; exact rfl; exact rfl; exact rfl; exact rfl; exact rfl; exact rfl; exact rfl; exact rfl; (apply OpP.loadA; exact kEv; exact HasAt.base hb2; exact rfl))
  (apply AJ.pur (i := 8); exact rfl; exact rfl; exact rfl; exact rfl; exact rfl; exact rfl; exact rfl; exact rfl; exact rfl; (apply OpP.neq2; kernel_rfl; kernel_rfl; kernel_rfl; kernel_rfl; exact kEv; exact kEv))
  (refine AJ.done (by kernel_rfl) (by kernel_rfl) rfl (by kernel_rfl) ?_)
  refine kAutoB ?_
  cases hx : ((a[i]'hlt').1 == (b[i]'hlt2).1 && (a[i]'hlt').2 == (b[i]'hlt2).2)
  · refine kAutoB ?_
    refine XJ.ret1 rfl rfl [] (by exact kGives) ⟨?_, rfl⟩
    rw [decide_eq_false (fun e => by subst e; simp at hx)]
  · have hn : (a[i]'hlt') = (b[i]'hlt2) := by
      simp only [Bool.and_eq_true, beq_iff_eq] at hx
      exact Prod.ext hx.1 hx.2
    refine kAutoB ?_
    rw [i64_up i (by omega)]
    exact XJ.round (i + 1) ⟨by omega, take_step hlt' hlt2 he hn⟩ (by omega) (by exact kEsub) (by exact kGives)
end Go.Proofs.YtgmapenlgammfaaGreatDoor
