/- The library's search functions over slices, at the instances that the program uses. -/
import Derived.Test.YtgmapenlgammfaaGreatDoorData
import Derived.Test.YtgmapenlgammfaaGreatDoorLex
set_option linter.all false
namespace Go.Proofs.YtgmapenlgammfaaGreatDoor
open Go

/-- The first of m indexes from i on that q takes, or -1. -/
def firstI (q : Nat → Bool) (n i m : Nat) : Int := match m with
  | 0 => -1
  | m + 1 => if q i then (i : Int) else firstI q n (i + 1) m
def anyI (q : Nat → Bool) (n : Nat) : Bool := (List.range n).any q
theorem firstI_any (q : Nat → Bool) (n : Nat) : decide (firstI q n 0 n ≥ 0) = anyI q n := by
  have key : ∀ m i, decide (firstI q n i m ≥ 0) = (List.range' i m).any q := by
    intro m
    induction m with
    | zero => intro i; rfl
    | succ m ih =>
      intro i
      rw [List.range'_succ, List.any_cons]
      unfold firstI
      cases h : q i
      · simpa using ih (i + 1)
      · simp
  rw [key, anyI, List.range_eq_range']

theorem node_index_spec (w0 : World) (k : FuncId) (first cap : List Value) (A : Option Addr) (c : Nat) (rows : List (List Value)) (pre : List HProp) (q : Nat → Bool) (ck : CallT Tryz.prog k) (hl : rows.length < 4611686018427387904) (hr : RowsB w0 4 A rows)
    (hf : ∀ i (hi : i < rows.length), Spec Tryz.prog w0 k (first ++ [Value.agg (rows[i]'hi).toArray] ++ cap).toArray pre (Ret (fun v N => v = .bool (q i) ∧ N = pre) noP)) :
    Spec Tryz.prog w0 154 #[.slice A rows.length c, .func (.func k) first.toArray cap.toArray] pre (Ret (fun v N => v = .int .i64 (firstI q rows.length 0 rows.length) ∧ N = pre) noP) := by
  refine Spec.enter (args := [_, _]) Tryz.func154 rfl rfl rfl (fun F => ?_)
  refine kAuto ?_
  refine CJ.loop (σ := Nat) (fun i => i ≤ rows.length ∧ firstI q rows.length 0 rows.length = firstI q rows.length i (rows.length - i)) (fun i => [(8, .int .i64 (i : Int)), (0, .slice A rows.length c), (1, .func (.func k) first.toArray cap.toArray), (7, .int .i64 (rows.length : Int))]) (fun _ => pre ++ F) (fun i => rows.length - i) 0 ⟨Nat.zero_le _, by simp⟩ (by exact kEsub) (Gives.refl _) ?_
  intro i ⟨hi, he⟩
  refine kAuto ?_
  cases hlt : decide ((i : Int) < (rows.length : Int))
  · have hge : i = rows.length := by have := of_decide_eq_false hlt; omega
    refine kAuto ?_
    refine XJ.ret1 rfl rfl _ (Gives.refl _) ⟨?_, rfl⟩
    rw [he, hge, Nat.sub_self]
    rfl
  · have hlt' : i < rows.length := by have := of_decide_eq_true hlt; omega
    obtain ⟨b, o, rfl, hlen, hbase⟩ := hr.at_ i hlt'
    refine kAuto ?_
    apply RL.pur; (apply OpP.indexAddr; exact kEv; exact kEv; exact hlt'); exact rfl
    skip
    apply RL.pur; (apply OpP.loadA; exact kEv; exact HasAt.base hbase; exact hlen); exact rfl
    refine kAuto ?_
    (apply RL.callK; exact kEv; exact ck; exact kEvl; exact Takes.app _ _; exact hf i hlt'; exact rfl)
    rintro _ _ ⟨rfl, rfl⟩
    refine kAuto ?_
    have hs : firstI q rows.length i (rows.length - i) = if q i then (i : Int) else firstI q rows.length (i + 1) (rows.length - (i + 1)) := by
      rw [show rows.length - i = (rows.length - (i + 1)) + 1 by omega]
      rfl
    cases hc : q i
    · refine kAuto ?_
      rw [i64_succ i (by omega)]
      refine XJ.round (i + 1) ⟨by omega, ?_⟩ (by omega) (by exact kEsub) (Gives.refl _)
      rw [he, hs, hc]
      rfl
    · refine kAuto ?_
      refine XJ.ret1 rfl rfl _ (Gives.refl _) ⟨?_, rfl⟩
      rw [he, hs, hc]
      rfl
theorem node_contains_spec (w0 : World) (k : FuncId) (first cap : List Value) (A : Option Addr) (c : Nat) (rows : List (List Value)) (pre : List HProp) (q : Nat → Bool) (ck : CallT Tryz.prog k) (hl : rows.length < 4611686018427387904) (hr : RowsB w0 4 A rows)
    (hf : ∀ i (hi : i < rows.length), Spec Tryz.prog w0 k (first ++ [Value.agg (rows[i]'hi).toArray] ++ cap).toArray pre (Ret (fun v N => v = .bool (q i) ∧ N = pre) noP)) :
    Spec Tryz.prog w0 104 #[.slice A rows.length c, .func (.func k) first.toArray cap.toArray] pre (Ret (fun v N => v = .bool (anyI q rows.length) ∧ N = pre) noP) := by
  refine Spec.enter (args := [_, _]) Tryz.func104 rfl rfl rfl (fun F => ?_)
  refine kAuto ?_
  (apply RL.callK; exact kEv; exact inferInstance; exact kEvl; exact (Takes.app _ _); exact node_index_spec w0 k first cap A c rows pre q ck hl hr hf; exact rfl)
  rintro _ _ ⟨rfl, rfl⟩
  refine kAuto ?_
  refine XJ.ret1 rfl rfl _ (Gives.refl _) ⟨?_, rfl⟩
  rw [firstI_any]

theorem arr_index_spec (w0 : World) (k : FuncId) (first cap : List Value) (A : Option Addr) (c : Nat) (rows : List (List Value)) (pre : List HProp) (q : Nat → Bool) (ck : CallT Tryz.prog k) (hl : rows.length < 4611686018427387904) (hr : RowsB w0 2 A rows)
    (hf : ∀ i (hi : i < rows.length), Spec Tryz.prog w0 k (first ++ [Value.agg (rows[i]'hi).toArray] ++ cap).toArray pre (Ret (fun v N => v = .bool (q i) ∧ N = pre) noP)) :
    Spec Tryz.prog w0 159 #[.slice A rows.length c, .func (.func k) first.toArray cap.toArray] pre (Ret (fun v N => v = .int .i64 (firstI q rows.length 0 rows.length) ∧ N = pre) noP) := by
  refine Spec.enter (args := [_, _]) Tryz.func159 rfl rfl rfl (fun F => ?_)
  refine kAuto ?_
  refine CJ.loop (σ := Nat) (fun i => i ≤ rows.length ∧ firstI q rows.length 0 rows.length = firstI q rows.length i (rows.length - i)) (fun i => [(8, .int .i64 (i : Int)), (0, .slice A rows.length c), (1, .func (.func k) first.toArray cap.toArray), (7, .int .i64 (rows.length : Int))]) (fun _ => pre ++ F) (fun i => rows.length - i) 0 ⟨Nat.zero_le _, by simp⟩ (by exact kEsub) (Gives.refl _) ?_
  intro i ⟨hi, he⟩
  refine kAuto ?_
  cases hlt : decide ((i : Int) < (rows.length : Int))
  · have hge : i = rows.length := by have := of_decide_eq_false hlt; omega
    refine kAuto ?_
    refine XJ.ret1 rfl rfl _ (Gives.refl _) ⟨?_, rfl⟩
    rw [he, hge, Nat.sub_self]
    rfl
  · have hlt' : i < rows.length := by have := of_decide_eq_true hlt; omega
    obtain ⟨b, o, rfl, hlen, hbase⟩ := hr.at_ i hlt'
    refine kAuto ?_
    apply RL.pur; (apply OpP.indexAddr; exact kEv; exact kEv; exact hlt'); exact rfl
    skip
    apply RL.pur; (apply OpP.loadA; exact kEv; exact HasAt.base hbase; exact hlen); exact rfl
    refine kAuto ?_
    (apply RL.callK; exact kEv; exact ck; exact kEvl; exact Takes.app _ _; exact hf i hlt'; exact rfl)
    rintro _ _ ⟨rfl, rfl⟩
    refine kAuto ?_
    have hs : firstI q rows.length i (rows.length - i) = if q i then (i : Int) else firstI q rows.length (i + 1) (rows.length - (i + 1)) := by
      rw [show rows.length - i = (rows.length - (i + 1)) + 1 by omega]
      rfl
    cases hc : q i
    · refine kAuto ?_
      rw [i64_succ i (by omega)]
      refine XJ.round (i + 1) ⟨by omega, ?_⟩ (by omega) (by exact kEsub) (Gives.refl _)
      rw [he, hs, hc]
      rfl
    · refine kAuto ?_
      refine XJ.ret1 rfl rfl _ (Gives.refl _) ⟨?_, rfl⟩
      rw [he, hs, hc]
      rfl
theorem arr_contains_spec (w0 : World) (k : FuncId) (first cap : List Value) (A : Option Addr) (c : Nat) (rows : List (List Value)) (pre : List HProp) (q : Nat → Bool) (ck : CallT Tryz.prog k) (hl : rows.length < 4611686018427387904) (hr : RowsB w0 2 A rows)
    (hf : ∀ i (hi : i < rows.length), Spec Tryz.prog w0 k (first ++ [Value.agg (rows[i]'hi).toArray] ++ cap).toArray pre (Ret (fun v N => v = .bool (q i) ∧ N = pre) noP)) :
    Spec Tryz.prog w0 113 #[.slice A rows.length c, .func (.func k) first.toArray cap.toArray] pre (Ret (fun v N => v = .bool (anyI q rows.length) ∧ N = pre) noP) := by
  refine Spec.enter (args := [_, _]) Tryz.func113 rfl rfl rfl (fun F => ?_)
  refine kAuto ?_
  (apply RL.callK; exact kEv; exact inferInstance; exact kEvl; exact (Takes.app _ _); exact arr_index_spec w0 k first cap A c rows pre q ck hl hr hf; exact rfl)
  rintro _ _ ⟨rfl, rfl⟩
  refine kAuto ?_
  refine XJ.ret1 rfl rfl _ (Gives.refl _) ⟨?_, rfl⟩
  rw [firstI_any]

theorem task_index_spec (w0 : World) (k : FuncId) (first cap : List Value) (A : Option Addr) (c : Nat) (rows : List (List Value)) (pre : List HProp) (q : Nat → Bool) (ck : CallT Tryz.prog k) (hl : rows.length < 4611686018427387904) (hr : RowsB w0 8 A rows)
    (hf : ∀ i (hi : i < rows.length), Spec Tryz.prog w0 k (first ++ [Value.agg (rows[i]'hi).toArray] ++ cap).toArray pre (Ret (fun v N => v = .bool (q i) ∧ N = pre) noP)) :
    Spec Tryz.prog w0 124 #[.slice A rows.length c, .func (.func k) first.toArray cap.toArray] pre (Ret (fun v N => v = .int .i64 (firstI q rows.length 0 rows.length) ∧ N = pre) noP) := by
  refine Spec.enter (args := [_, _]) Tryz.func124 rfl rfl rfl (fun F => ?_)
  refine kAuto ?_
  refine CJ.loop (σ := Nat) (fun i => i ≤ rows.length ∧ firstI q rows.length 0 rows.length = firstI q rows.length i (rows.length - i)) (fun i => [(8, .int .i64 (i : Int)), (0, .slice A rows.length c), (1, .func (.func k) first.toArray cap.toArray), (7, .int .i64 (rows.length : Int))]) (fun _ => pre ++ F) (fun i => rows.length - i) 0 ⟨Nat.zero_le _, by simp⟩ (by exact kEsub) (Gives.refl _) ?_
  intro i ⟨hi, he⟩
  refine kAuto ?_
  cases hlt : decide ((i : Int) < (rows.length : Int))
  · have hge : i = rows.length := by have := of_decide_eq_false hlt; omega
    refine kAuto ?_
    refine XJ.ret1 rfl rfl _ (Gives.refl _) ⟨?_, rfl⟩
    rw [he, hge, Nat.sub_self]
    rfl
  · have hlt' : i < rows.length := by have := of_decide_eq_true hlt; omega
    obtain ⟨b, o, rfl, hlen, hbase⟩ := hr.at_ i hlt'
    refine kAuto ?_
    apply RL.pur; (apply OpP.indexAddr; exact kEv; exact kEv; exact hlt'); exact rfl
    skip
    apply RL.pur; (apply OpP.loadA; exact kEv; exact HasAt.base hbase; exact hlen); exact rfl
    refine kAuto ?_
    (apply RL.callK; exact kEv; exact ck; exact kEvl; exact Takes.app _ _; exact hf i hlt'; exact rfl)
    rintro _ _ ⟨rfl, rfl⟩
    refine kAuto ?_
    have hs : firstI q rows.length i (rows.length - i) = if q i then (i : Int) else firstI q rows.length (i + 1) (rows.length - (i + 1)) := by
      rw [show rows.length - i = (rows.length - (i + 1)) + 1 by omega]
      rfl
    cases hc : q i
    · refine kAuto ?_
      rw [i64_succ i (by omega)]
      refine XJ.round (i + 1) ⟨by omega, ?_⟩ (by omega) (by exact kEsub) (Gives.refl _)
      rw [he, hs, hc]
      rfl
    · refine kAuto ?_
      refine XJ.ret1 rfl rfl _ (Gives.refl _) ⟨?_, rfl⟩
      rw [he, hs, hc]
      rfl
theorem task_contains_spec (w0 : World) (k : FuncId) (first cap : List Value) (A : Option Addr) (c : Nat) (rows : List (List Value)) (pre : List HProp) (q : Nat → Bool) (ck : CallT Tryz.prog k) (hl : rows.length < 4611686018427387904) (hr : RowsB w0 8 A rows)
    (hf : ∀ i (hi : i < rows.length), Spec Tryz.prog w0 k (first ++ [Value.agg (rows[i]'hi).toArray] ++ cap).toArray pre (Ret (fun v N => v = .bool (q i) ∧ N = pre) noP)) :
    Spec Tryz.prog w0 85 #[.slice A rows.length c, .func (.func k) first.toArray cap.toArray] pre (Ret (fun v N => v = .bool (anyI q rows.length) ∧ N = pre) noP) := by
  refine Spec.enter (args := [_, _]) Tryz.func85 rfl rfl rfl (fun F => ?_)
  refine kAuto ?_
  (apply RL.callK; exact kEv; exact inferInstance; exact kEvl; exact (Takes.app _ _); exact task_index_spec w0 k first cap A c rows pre q ck hl hr hf; exact rfl)
  rintro _ _ ⟨rfl, rfl⟩
  refine kAuto ?_
  refine XJ.ret1 rfl rfl _ (Gives.refl _) ⟨?_, rfl⟩
  rw [firstI_any]

theorem str_index_spec (w0 : World) (k : FuncId) (first cap : List Value) (A : Option Addr) (c : Nat) (rows : List (List Value)) (pre : List HProp) (q : Nat → Bool) (ck : CallT Tryz.prog k) (hl : rows.length < 4611686018427387904) (hr : RowsB w0 1 A rows)
    (hf : ∀ i (hi : i < rows.length), Spec Tryz.prog w0 k (first ++ [(rows[i]'hi).headD undef] ++ cap).toArray pre (Ret (fun v N => v = .bool (q i) ∧ N = pre) noP)) :
    Spec Tryz.prog w0 160 #[.slice A rows.length c, .func (.func k) first.toArray cap.toArray] pre (Ret (fun v N => v = .int .i64 (firstI q rows.length 0 rows.length) ∧ N = pre) noP) := by
  refine Spec.enter (args := [_, _]) Tryz.func160 rfl rfl rfl (fun F => ?_)
  refine kAuto ?_
  refine CJ.loop (σ := Nat) (fun i => i ≤ rows.length ∧ firstI q rows.length 0 rows.length = firstI q rows.length i (rows.length - i)) (fun i => [(8, .int .i64 (i : Int)), (0, .slice A rows.length c), (1, .func (.func k) first.toArray cap.toArray), (7, .int .i64 (rows.length : Int))]) (fun _ => pre ++ F) (fun i => rows.length - i) 0 ⟨Nat.zero_le _, by simp⟩ (by exact kEsub) (Gives.refl _) ?_
  intro i ⟨hi, he⟩
  refine kAuto ?_
  cases hlt : decide ((i : Int) < (rows.length : Int))
  · have hge : i = rows.length := by have := of_decide_eq_false hlt; omega
    refine kAuto ?_
    refine XJ.ret1 rfl rfl _ (Gives.refl _) ⟨?_, rfl⟩
    rw [he, hge, Nat.sub_self]
    rfl
  · have hlt' : i < rows.length := by have := of_decide_eq_true hlt; omega
    obtain ⟨b, o, rfl, hlen, hbase⟩ := hr.at_ i hlt'
    refine kAuto ?_
    apply RL.pur; (apply OpP.indexAddr; exact kEv; exact kEv; exact hlt'); exact rfl
    obtain ⟨x, hx⟩ : ∃ x, rows[i]'hlt' = [x] := List.length_eq_one_iff.1 hlen
    rw [hx] at hbase
    apply RL.pur; (apply OpP.load; exact kEv; exact HasAt.base hbase); exact rfl
    refine kAuto ?_
    (apply RL.callK; exact kEv; exact ck; exact kEvl; exact Takes.app _ _; exact (by have h7 := hf i hlt'; rw [hx] at h7; exact h7); exact rfl)
    rintro _ _ ⟨rfl, rfl⟩
    refine kAuto ?_
    have hs : firstI q rows.length i (rows.length - i) = if q i then (i : Int) else firstI q rows.length (i + 1) (rows.length - (i + 1)) := by
      rw [show rows.length - i = (rows.length - (i + 1)) + 1 by omega]
      rfl
    cases hc : q i
    · refine kAuto ?_
      rw [i64_succ i (by omega)]
      refine XJ.round (i + 1) ⟨by omega, ?_⟩ (by omega) (by exact kEsub) (Gives.refl _)
      rw [he, hs, hc]
      rfl
    · refine kAuto ?_
      refine XJ.ret1 rfl rfl _ (Gives.refl _) ⟨?_, rfl⟩
      rw [he, hs, hc]
      rfl
theorem str_contains_spec (w0 : World) (k : FuncId) (first cap : List Value) (A : Option Addr) (c : Nat) (rows : List (List Value)) (pre : List HProp) (q : Nat → Bool) (ck : CallT Tryz.prog k) (hl : rows.length < 4611686018427387904) (hr : RowsB w0 1 A rows)
    (hf : ∀ i (hi : i < rows.length), Spec Tryz.prog w0 k (first ++ [(rows[i]'hi).headD undef] ++ cap).toArray pre (Ret (fun v N => v = .bool (q i) ∧ N = pre) noP)) :
    Spec Tryz.prog w0 125 #[.slice A rows.length c, .func (.func k) first.toArray cap.toArray] pre (Ret (fun v N => v = .bool (anyI q rows.length) ∧ N = pre) noP) := by
  refine Spec.enter (args := [_, _]) Tryz.func125 rfl rfl rfl (fun F => ?_)
  refine kAuto ?_
  (apply RL.callK; exact kEv; exact inferInstance; exact kEvl; exact (Takes.app _ _); exact str_index_spec w0 k first cap A c rows pre q ck hl hr hf; exact rfl)
  rintro _ _ ⟨rfl, rfl⟩
  refine kAuto ?_
  refine XJ.ret1 rfl rfl _ (Gives.refl _) ⟨?_, rfl⟩
  rw [firstI_any]

def allI (q : Nat → Bool) (n : Nat) : Bool := (List.range n).all q
theorem allI_true (q : Nat → Bool) (n : Nat) (h : ∀ j, j < n → q j = true) : allI q n = true := by
  unfold allI
  rw [List.all_eq_true]
  intro x hx
  exact h x (by simpa using hx)
theorem allI_false (q : Nat → Bool) (n i : Nat) (hi : i < n) (h : q i = false) : allI q n = false := by
  unfold allI
  rw [List.all_eq_false]
  exact ⟨i, by simpa using hi, by simp [h]⟩

theorem node_equal_spec (w0 : World) (k : FuncId) (first cap : List Value) (A B : Option Addr) (c e : Nat) (rows : List (List Value)) (us : List Value) (pre : List HProp) (q : Nat → Bool) (ck : CallT Tryz.prog k) (hl : rows.length < 4611686018427387904) (hr : RowsB w0 4 A rows) (hone : ∀ r ∈ rows, r.all (·.oneCell') = true) (hu : RowsB w0 1 B (us.map fun u => [u]))
    (hf : ∀ i (hi : i < rows.length) (hj : i < us.length), Spec Tryz.prog w0 k (first ++ [Value.agg (rows[i]'hi).toArray, us[i]'hj] ++ cap).toArray pre (Ret (fun v N => v = .bool (q i) ∧ N = pre) noP)) :
    Spec Tryz.prog w0 107 #[.slice A rows.length c, .slice B us.length e, .func (.func k) first.toArray cap.toArray] pre (Ret (fun v N => v = .bool (decide (rows.length = us.length) && allI q rows.length) ∧ N = pre) noP) := by
  refine Spec.enter (args := [_, _, _]) Tryz.func107 rfl rfl rfl (fun F => ?_)
  refine kAuto ?_
  cases hne : ((rows.length : Int) != (us.length : Int))
  · have hlen : rows.length = us.length := by have := hne; simp only [bne_eq_false_iff_eq] at this; omega
    refine kAuto ?_
    refine CJ.loop (σ := Nat) (fun i => i ≤ rows.length ∧ ∀ j, j < i → q j = true) (fun i => [(17, .int .i64 (i : Int)), (15, .slice A rows.length c), (1, .slice B us.length e), (2, .func (.func k) first.toArray cap.toArray), (16, .int .i64 (rows.length : Int))]) (fun _ => pre ++ F) (fun i => rows.length - i) 0 ⟨Nat.zero_le _, fun j hj => by omega⟩ (by exact kEsub) (Gives.refl _) ?_
    intro i ⟨hi, hq⟩
    refine kAuto ?_
    cases hlt : decide ((i : Int) < (rows.length : Int))
    · have hge : i = rows.length := by have := of_decide_eq_false hlt; omega
      refine kAuto ?_
      refine XJ.ret1 rfl rfl _ (Gives.refl _) ⟨?_, rfl⟩
      rw [allI_true q rows.length (fun j hj => hq j (by omega)), decide_eq_true hlen]
      rfl
    · have hlt' : i < rows.length := by have := of_decide_eq_true hlt; omega
      obtain ⟨b, o, rfl, hrl, hbase⟩ := hr.at_ i hlt'
      have h1 := hone _ (List.getElem_mem hlt')
      have hf' := hf i hlt' (by omega)
      obtain ⟨b2, o2, rfl, hul, hbase2⟩ := hu.at_ i (by simpa using (by omega : i < us.length))
      simp only [List.getElem_map] at hbase2 hul
      generalize hrow : rows[i]'hlt' = row at hbase hrl h1 hf'
      generalize hus : us[i]'(by omega) = u at hbase2 hul hf'
      refine kAuto ?_
      apply RL.pur; (apply OpP.indexAddr; exact kEv; exact kEv; exact hlt'); exact rfl
      apply RL.pur; (apply OpP.loadA; exact kEv; exact HasAt.base hbase; exact hrl); exact rfl
      (apply RL.alloc; exact rfl; exact rfl; intro b3)
      refine kAuto ?_
      (apply RL.storeW; exact kEv; exact kEv; exact kTake; exact hrl; exact rfl; exact h1)
      refine kAuto ?_
      apply RL.pur; (apply OpP.indexAddr; exact kEv; exact kEv; exact hlen ▸ hlt'); exact rfl
      apply RL.pur; (apply OpP.load; exact kEv; exact HasAt.base hbase2); exact rfl
      refine kAuto ?_
      (apply RL.callK; exact kEv; exact ck; exact kEvl; exact (Takes.there1 (Takes.app _ _)); exact hf'; exact rfl)
      rintro _ _ ⟨rfl, rfl⟩
      refine kAuto ?_
      cases hc : q i
      · refine kAuto ?_
        refine XJ.ret1 rfl rfl _ (Takes.drop2 _ _ _) ⟨?_, rfl⟩
        rw [allI_false q rows.length i hlt' hc, Bool.and_false]
      · refine kAuto ?_
        rw [i64_succ i (by omega)]
        refine XJ.round (i + 1) ⟨by omega, fun j hj => ?_⟩ (by omega) (by exact kEsub) (Takes.drop2 _ _ _)
        by_cases hji : j = i
        · subst hji; exact hc
        · exact hq j (by omega)
  · have hlen : rows.length ≠ us.length := by have := hne; simp only [bne_iff_ne, ne_eq] at this; omega
    refine kAuto ?_
    refine XJ.ret1 rfl rfl _ (Gives.refl _) ⟨?_, rfl⟩
    rw [decide_eq_false hlen]
    rfl

theorem task_equal_spec (w0 : World) (k : FuncId) (first cap : List Value) (A B : Option Addr) (c e : Nat) (rows : List (List Value)) (us : List Value) (pre : List HProp) (q : Nat → Bool) (ck : CallT Tryz.prog k) (hl : rows.length < 4611686018427387904) (hr : RowsB w0 8 A rows) (hone : ∀ r ∈ rows, r.all (·.oneCell') = true) (hu : RowsB w0 1 B (us.map fun u => [u]))
    (hf : ∀ i (hi : i < rows.length) (hj : i < us.length), Spec Tryz.prog w0 k (first ++ [Value.agg (rows[i]'hi).toArray, us[i]'hj] ++ cap).toArray pre (Ret (fun v N => v = .bool (q i) ∧ N = pre) noP)) :
    Spec Tryz.prog w0 59 #[.slice A rows.length c, .slice B us.length e, .func (.func k) first.toArray cap.toArray] pre (Ret (fun v N => v = .bool (decide (rows.length = us.length) && allI q rows.length) ∧ N = pre) noP) := by
  refine Spec.enter (args := [_, _, _]) Tryz.func59 rfl rfl rfl (fun F => ?_)
  refine kAuto ?_
  cases hne : ((rows.length : Int) != (us.length : Int))
  · have hlen : rows.length = us.length := by have := hne; simp only [bne_eq_false_iff_eq] at this; omega
    refine kAuto ?_
    refine CJ.loop (σ := Nat) (fun i => i ≤ rows.length ∧ ∀ j, j < i → q j = true) (fun i => [(17, .int .i64 (i : Int)), (15, .slice A rows.length c), (1, .slice B us.length e), (2, .func (.func k) first.toArray cap.toArray), (16, .int .i64 (rows.length : Int))]) (fun _ => pre ++ F) (fun i => rows.length - i) 0 ⟨Nat.zero_le _, fun j hj => by omega⟩ (by exact kEsub) (Gives.refl _) ?_
    intro i ⟨hi, hq⟩
    refine kAuto ?_
    cases hlt : decide ((i : Int) < (rows.length : Int))
    · have hge : i = rows.length := by have := of_decide_eq_false hlt; omega
      refine kAuto ?_
      refine XJ.ret1 rfl rfl _ (Gives.refl _) ⟨?_, rfl⟩
      rw [allI_true q rows.length (fun j hj => hq j (by omega)), decide_eq_true hlen]
      rfl
    · have hlt' : i < rows.length := by have := of_decide_eq_true hlt; omega
      obtain ⟨b, o, rfl, hrl, hbase⟩ := hr.at_ i hlt'
      have h1 := hone _ (List.getElem_mem hlt')
      have hf' := hf i hlt' (by omega)
      obtain ⟨b2, o2, rfl, hul, hbase2⟩ := hu.at_ i (by simpa using (by omega : i < us.length))
      simp only [List.getElem_map] at hbase2 hul
      generalize hrow : rows[i]'hlt' = row at hbase hrl h1 hf'
      generalize hus : us[i]'(by omega) = u at hbase2 hul hf'
      refine kAuto ?_
      apply RL.pur; (apply OpP.indexAddr; exact kEv; exact kEv; exact hlt'); exact rfl
      apply RL.pur; (apply OpP.loadA; exact kEv; exact HasAt.base hbase; exact hrl); exact rfl
      (apply RL.alloc; exact rfl; exact rfl; intro b3)
      refine kAuto ?_
      (apply RL.storeW; exact kEv; exact kEv; exact kTake; exact hrl; exact rfl; exact h1)
      refine kAuto ?_
      apply RL.pur; (apply OpP.indexAddr; exact kEv; exact kEv; exact hlen ▸ hlt'); exact rfl
      apply RL.pur; (apply OpP.load; exact kEv; exact HasAt.base hbase2); exact rfl
      refine kAuto ?_
      (apply RL.callK; exact kEv; exact ck; exact kEvl; exact (Takes.there1 (Takes.app _ _)); exact hf'; exact rfl)
      rintro _ _ ⟨rfl, rfl⟩
      refine kAuto ?_
      cases hc : q i
      · refine kAuto ?_
        refine XJ.ret1 rfl rfl _ (Takes.drop2 _ _ _) ⟨?_, rfl⟩
        rw [allI_false q rows.length i hlt' hc, Bool.and_false]
      · refine kAuto ?_
        rw [i64_succ i (by omega)]
        refine XJ.round (i + 1) ⟨by omega, fun j hj => ?_⟩ (by omega) (by exact kEsub) (Takes.drop2 _ _ _)
        by_cases hji : j = i
        · subst hji; exact hc
        · exact hq j (by omega)
  · have hlen : rows.length ≠ us.length := by have := hne; simp only [bne_iff_ne, ne_eq] at this; omega
    refine kAuto ?_
    refine XJ.ret1 rfl rfl _ (Gives.refl _) ⟨?_, rfl⟩
    rw [decide_eq_false hlen]
    rfl

theorem arr_equal_spec (w0 : World) (k : FuncId) (first cap : List Value) (A B : Option Addr) (c e : Nat) (rows : List (List Value)) (us : List Value) (pre : List HProp) (q : Nat → Bool) (ck : CallT Tryz.prog k) (hl : rows.length < 4611686018427387904) (hr : RowsB w0 2 A rows) (hone : ∀ r ∈ rows, r.all (·.oneCell') = true) (hu : RowsB w0 1 B (us.map fun u => [u]))
    (hf : ∀ i (hi : i < rows.length) (hj : i < us.length), Spec Tryz.prog w0 k (first ++ [Value.agg (rows[i]'hi).toArray, us[i]'hj] ++ cap).toArray pre (Ret (fun v N => v = .bool (q i) ∧ N = pre) noP)) :
    Spec Tryz.prog w0 94 #[.slice A rows.length c, .slice B us.length e, .func (.func k) first.toArray cap.toArray] pre (Ret (fun v N => v = .bool (decide (rows.length = us.length) && allI q rows.length) ∧ N = pre) noP) := by
  refine Spec.enter (args := [_, _, _]) Tryz.func94 rfl rfl rfl (fun F => ?_)
  refine kAuto ?_
  cases hne : ((rows.length : Int) != (us.length : Int))
  · have hlen : rows.length = us.length := by have := hne; simp only [bne_eq_false_iff_eq] at this; omega
    refine kAuto ?_
    refine CJ.loop (σ := Nat) (fun i => i ≤ rows.length ∧ ∀ j, j < i → q j = true) (fun i => [(17, .int .i64 (i : Int)), (15, .slice A rows.length c), (1, .slice B us.length e), (2, .func (.func k) first.toArray cap.toArray), (16, .int .i64 (rows.length : Int))]) (fun _ => pre ++ F) (fun i => rows.length - i) 0 ⟨Nat.zero_le _, fun j hj => by omega⟩ (by exact kEsub) (Gives.refl _) ?_
    intro i ⟨hi, hq⟩
    refine kAuto ?_
    cases hlt : decide ((i : Int) < (rows.length : Int))
    · have hge : i = rows.length := by have := of_decide_eq_false hlt; omega
      refine kAuto ?_
      refine XJ.ret1 rfl rfl _ (Gives.refl _) ⟨?_, rfl⟩
      rw [allI_true q rows.length (fun j hj => hq j (by omega)), decide_eq_true hlen]
      rfl
    · have hlt' : i < rows.length := by have := of_decide_eq_true hlt; omega
      obtain ⟨b, o, rfl, hrl, hbase⟩ := hr.at_ i hlt'
      have h1 := hone _ (List.getElem_mem hlt')
      have hf' := hf i hlt' (by omega)
      obtain ⟨b2, o2, rfl, hul, hbase2⟩ := hu.at_ i (by simpa using (by omega : i < us.length))
      simp only [List.getElem_map] at hbase2 hul
      generalize hrow : rows[i]'hlt' = row at hbase hrl h1 hf'
      generalize hus : us[i]'(by omega) = u at hbase2 hul hf'
      refine kAuto ?_
      apply RL.pur; (apply OpP.indexAddr; exact kEv; exact kEv; exact hlt'); exact rfl
      apply RL.pur; (apply OpP.loadA; exact kEv; exact HasAt.base hbase; exact hrl); exact rfl
      (apply RL.alloc; exact rfl; exact rfl; intro b3)
      refine kAuto ?_
      (apply RL.storeW; exact kEv; exact kEv; exact kTake; exact hrl; exact rfl; exact h1)
      refine kAuto ?_
      apply RL.pur; (apply OpP.indexAddr; exact kEv; exact kEv; exact hlen ▸ hlt'); exact rfl
      apply RL.pur; (apply OpP.load; exact kEv; exact HasAt.base hbase2); exact rfl
      refine kAuto ?_
      (apply RL.callK; exact kEv; exact ck; exact kEvl; exact (Takes.there1 (Takes.app _ _)); exact hf'; exact rfl)
      rintro _ _ ⟨rfl, rfl⟩
      refine kAuto ?_
      cases hc : q i
      · refine kAuto ?_
        refine XJ.ret1 rfl rfl _ (Takes.drop2 _ _ _) ⟨?_, rfl⟩
        rw [allI_false q rows.length i hlt' hc, Bool.and_false]
      · refine kAuto ?_
        rw [i64_succ i (by omega)]
        refine XJ.round (i + 1) ⟨by omega, fun j hj => ?_⟩ (by omega) (by exact kEsub) (Takes.drop2 _ _ _)
        by_cases hji : j = i
        · subst hji; exact hc
        · exact hq j (by omega)
  · have hlen : rows.length ≠ us.length := by have := hne; simp only [bne_iff_ne, ne_eq] at this; omega
    refine kAuto ?_
    refine XJ.ret1 rfl rfl _ (Gives.refl _) ⟨?_, rfl⟩
    rw [decide_eq_false hlen]
    rfl
end Go.Proofs.YtgmapenlgammfaaGreatDoor
