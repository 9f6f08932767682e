/- The package interp: sized, Fits, zeros, New. -/
import Derived.Test.YtgmapenlgammfaaGreatDoorDefer
set_option linter.all false
namespace Go.Proofs.YtgmapenlgammfaaGreatDoor
open Go

/-- Whether lists have the lengths of arrays. -/
def sizedB (l : List Arr) (m : List (List Int)) : Bool := decide (l.length = m.length) && allI (fun i => decide (((m.getD i []).length : Int) = (l.getD i arr0).len)) l.length
def tasksB (l : List Task) (m : List (List (List Int))) : Bool := decide (l.length = m.length) && allI (fun i => sizedB (l.getD i task0).arrays (m.getD i [])) l.length
/-- Whether a memory fits a program. -/
def fitsB (p : Prg) (m : Mem) : Bool := validB p && sizedB p.shared m.shared && tasksB p.tasks m.arrays
theorem sized1_spec (w0 : World) (a : Arr) (A : Option Addr) (n c : Nat) : Spec Tryz.prog w0 95 #[.agg (arrRow a).toArray, .slice A n c] [] (Is (.bool (decide ((n : Int) = a.len)))) := by
  unfold arrRow
  refine Spec.enter (args := [_, _]) Tryz.func95 rfl rfl rfl (fun F => ?_)
  refine kAutoB ?_
  (apply RL.boxR; exact kEv; exact rfl; intro b2)
  refine kAutoB ?_
  refine XJ.ret1 rfl rfl [] (by exact kGives) ⟨?_, rfl⟩
  rfl
theorem sized_spec (w0 : World) (A : Option Addr) (c : Nat) (l : List Arr) (v : Value) (m : List (List Int)) (hl : l.length < 4611686018427387904) (hR : RowsB w0 2 A (l.map arrRow)) (hm : MatR w0 v m) :
    Spec Tryz.prog w0 58 #[.slice A l.length c, v] [] (Is (.bool (sizedB l m))) := by
  obtain ⟨B, e, us, rfl, hce, hul, hrows, hin⟩ := hm
  have hq := arr_equal_spec w0 95 [] [] A B c e (l.map arrRow) us [] (fun i => decide (((m.getD i []).length : Int) = (l.getD i arr0).len)) inferInstance (by simpa using hl) hR (fun r hr => by
    obtain ⟨a, _, rfl⟩ := List.mem_map.1 hr; rfl) hrows (fun i hi hj => by
    have hi' : i < l.length := by simpa using hi
    obtain ⟨A1, c1, h1, h2, h3⟩ := hin i (m.getD i []) us[i] (by rw [List.getD_eq_getElem?_getD]; simp [show i < m.length by omega]) (by simp [hj])
    rw [getD_eq l arr0 i hi', List.getElem_map, h1]
    exact sized1_spec w0 _ A1 _ c1)
  rw [List.length_map, hul] at hq
  refine Spec.enter (args := [_, _]) Tryz.func58 rfl rfl rfl (fun F => ?_)
  refine kAutoB ?_
  (apply RL.callIs; exact kEv; exact inferInstance; exact kEvl; exact hq; exact rfl)
  refine kAutoB ?_
  exact XJ.ret1 rfl rfl [] (by exact kGives) ⟨rfl, rfl⟩
theorem fits1_spec (w0 : World) (t : Task) (cs : List Value) (hR : TaskR w0 t cs) (ha : t.arrays.length < 4611686018427387904) (v : Value) (m : List (List Int)) (hm : MatR w0 v m) :
    Spec Tryz.prog w0 60 #[.agg cs.toArray, v] [] (Is (.bool (sizedB t.arrays m))) := by
  obtain ⟨A1, c1, A2, c2, bs, rfl, h1, h2, h3, h4, h5⟩ := hR.ex
  have hs := sized_spec w0 A2 c2 t.arrays v m ha h4 hm
  obtain ⟨A5, c5, rfl, _⟩ := h5.kids
  refine Spec.enter (args := [_, _]) Tryz.func60 rfl rfl rfl (fun F => ?_)
  refine kAutoB ?_
  (apply RL.boxR; exact kEv; exact rfl; intro b2)
  refine kAutoB ?_
  (apply RL.callIs; exact kEv; exact inferInstance; exact kEvl; exact hs; exact rfl)
  refine kAutoB ?_
  exact XJ.ret1 rfl rfl [] (by exact kGives) ⟨rfl, rfl⟩
theorem fits_spec (w0 : World) (hT : Tab w0) (p : Prg) (cs : List Value) (hf : Fit p) (hR : PrgR w0 p cs) (m : Mem) (ms : List Value) (hM : MemR w0 ms m) :
    Spec Tryz.prog w0 27 #[.agg cs.toArray, .agg ms.toArray] [] (Is (.bool (fitsB p m))) := by
  have hV := Valid_spec w0 hT p cs hf hR
  obtain ⟨A1, c1, A2, c2, rfl, h1, h2, h3, h4⟩ := hR.ex
  obtain ⟨u, v, rfl, hu, hv⟩ := hM
  have hS := sized_spec w0 A1 c1 p.shared v m.shared hf.shared h3 hv
  obtain ⟨rows, hrl, hrows, hrt⟩ := h4.ex
  obtain ⟨B, e, us, rfl, hce, hul, hurows, hin⟩ := hu
  have hq := task_equal_spec w0 60 [] [] A2 B c2 e rows us [] (fun i => sizedB (p.tasks.getD i task0).arrays (m.arrays.getD i [])) inferInstance (by have := hf.tasks; omega) hrows (fun r hr => by
    obtain ⟨i, hi, rfl⟩ := List.mem_iff_getElem.1 hr
    obtain ⟨A5, c5, A6, c6, bs, e', g1, g2, g3, g4, g5⟩ := (hrt i (p.tasks[i]'(by omega)) rows[i] (by simp [show i < p.tasks.length by omega]) (by simp [hi])).ex
    rw [e']
    obtain ⟨A7, c7, rfl, _⟩ := g5.kids
    rfl) hurows (fun i hi hj => by
    have hi' : i < p.tasks.length := by omega
    rw [getD_eq p.tasks task0 i hi']
    have hm' := hf.each _ (List.getElem_mem hi')
    exact fits1_spec w0 _ _ (hrt i _ _ (by simp [hi']) (by simp [hi])) hm'.2.1 us[i] (m.arrays.getD i []) (hin i _ us[i] (by rw [List.getD_eq_getElem?_getD]; simp [show i < m.arrays.length by omega]) (by simp [hj])))
  rw [hrl, hul] at hq
  refine Spec.enter (args := [_, _]) Tryz.func27 rfl rfl rfl (fun F => ?_)
  refine kAutoB ?_
  (apply RL.boxR; exact kEv; exact rfl; intro b2)
  (apply RL.boxR; exact kEv; exact rfl; intro b3)
  refine kAutoB ?_
  (apply RL.callIs; exact kEv; exact inferInstance; exact kEvl; exact hV; exact rfl)
  cases e1 : validB p
  case false =>
    refine kAutoB ?_
    refine XJ.ret1 rfl rfl [] (by exact kGives) ⟨?_, rfl⟩
    rw [fitsB, e1]; rfl
  refine kAutoB ?_
  (apply RL.callIs; exact kEv; exact inferInstance; exact kEvl; exact hS; exact rfl)
  cases e2 : sizedB p.shared m.shared
  case false =>
    refine kAutoB ?_
    refine XJ.ret1 rfl rfl [] (by exact kGives) ⟨?_, rfl⟩
    rw [fitsB, e1, e2]; rfl
  refine kAutoB ?_
  (apply RL.callIs; exact kEv; exact inferInstance; exact kEvl; exact hq; exact rfl)
  refine kAutoB ?_
  refine XJ.ret1 rfl rfl [] (by exact kGives) ⟨?_, rfl⟩
  rw [fitsB, e1, e2]
  simp [tasksB]
/-- Lists of zeros of the lengths of arrays. -/
def zerosL (l : List Arr) : List (List Int) := l.map fun a => List.replicate a.len.toNat 0
theorem zeros_spec (w0 : World) (A : Option Addr) (c : Nat) (l : List Arr) (hl : l.length ≤ 1000000) (ha : ∀ a ∈ l, 0 ≤ a.len ∧ a.len ≤ 1000000) (hR : RowsB w0 2 A (l.map arrRow)) :
    Spec Tryz.prog w0 81 #[.slice A l.length c] [] (Ret (fun u N => ∃ A c us, u = .slice A l.length c ∧ us.length = l.length ∧ N = row 30 1 u l.length us :: innerM us (zerosL l)) noP) := by
  refine Spec.enter (args := [_]) Tryz.func81 rfl rfl rfl (fun F => ?_)
  refine kAutoB ?_
  refine CJ.gives (row_nil 30 1) ?_
  refine CJ.loop (σ := Nat × Option Addr × Nat × List Value) (fun s => s.1 ≤ l.length ∧ s.2.2.2.length = s.1) (fun s => [(8, .int .i64 (s.1 : Int)), (6, .slice A l.length c), (7, .int .i64 l.length), (3, .slice s.2.1 s.1 s.2.2.1)])
    (fun s => row 30 1 (.slice s.2.1 s.1 s.2.2.1) s.1 s.2.2.2 :: (innerM s.2.2.2 (zerosL (l.take s.1)) ++ F)) (fun s => l.length - s.1) (0, none, 0, []) ⟨Nat.zero_le _, rfl⟩ (by exact kEsub) (by exact kGives) ?_
  rintro ⟨i, Ao, co, us⟩ ⟨hi, hus⟩
  simp only at hi hus
  refine kAutoB ?_
  cases hlt : decide ((i : Int) < (l.length : Int))
  · have hge : i = l.length := by have := of_decide_eq_false hlt; omega
    subst hge
    refine kAutoB ?_
    refine XJ.ret1 rfl rfl (row 30 1 (.slice Ao l.length co) l.length us :: innerM us (zerosL l)) ?_ ⟨Ao, co, us, rfl, hus, rfl⟩
    simp only [List.take_length]
    exact Gives.refl _
  · have hlt' : i < l.length := by have := of_decide_eq_true hlt; omega
    obtain ⟨b, o, e, hrl, hb⟩ := hR.at_ i (by simpa using hlt')
    subst e
    simp only [List.getElem_map, arrRow] at hb hrl
    obtain ⟨ha0, ha1⟩ := ha _ (List.getElem_mem hlt')
    have hn : l[i].len = ((l[i].len.toNat : Nat) : Int) := by omega
    generalize hz : l[i].len.toNat = z at hn
    rw [hn] at hb
    refine kAutoB ?_
    apply RL.pur; (apply OpP.indexAddr; exact kEv; exact kEv; exact hlt'); exact rfl
    apply RL.pur; (apply OpP.loadA; exact kEv; exact HasAt.base hb; exact rfl); exact rfl
    (apply RL.alloc; exact rfl; exact rfl; intro b5)
    refine kAutoB ?_
    (apply RL.storeW; exact kEv; exact kEv; exact kTake; exact rfl; exact rfl; exact rfl)
    refine kAutoB ?_
    refine RL.makeRow (by exact kEv) (by exact kEv) rfl rfl rfl (by omega) (by omega) rfl (fun b6 => ?_)
    refine kAutoB ?_
    (apply RL.buildSlice; exact rfl; exact kEvl; exact rfl; (intro w; kernel_rfl); exact rfl; intro b3)
    refine RL.append (by exact kEv) (by exact kEv) (by exact kTake) (fun h _ => ⟨rfl, (fun u hu => by simp at hu; subst hu; rfl), .inr ⟨_, _, _, rfl, HasAt.pt (Takes.here _ _) atAll⟩⟩) (m := 1) (by simp only [maxLen]; omega) (by omega) rfl (fun A4 c4 => ?_)
    refine kAutoB ?_
    rw [i64_succ i (by omega)]
    refine XJ.round (i + 1, A4, c4, us ++ [.slice (some ⟨b6, 0, none⟩) z z]) ⟨by simp only; omega, by simp [hus]⟩ (by simp only; omega) (by exact kEsub) ?_
    simp only
    have hzl : zerosL (l.take (i + 1)) = zerosL (l.take i) ++ [List.replicate z 0] := by
      unfold zerosL
      rw [List.take_succ_eq_append_getElem hlt', List.map_append]
      simp [hz]
    rw [hzl, innerM_snoc us (zerosL (l.take i)) _ _ (by simp [zerosL]; omega)]
    have hrr : row 21 1 (.slice (some ⟨b6, 0, none⟩) z z) (List.replicate z (0 : Int)).length ((List.replicate z (0 : Int)).map intV) = row 21 1 (.slice (some ⟨b6, 0, none⟩) z z) z (List.replicate z (.int .i32 0)) := by
      rw [List.length_replicate, List.map_replicate]; rfl
    rw [hrr]
    exact Gives.cons (Takes.here _ _) (Gives.drop (Gives.trans (B := row 21 1 (.slice (some ⟨b6, 0, none⟩) z z) z (List.replicate z (.int .i32 0)) :: (innerM us (zerosL (l.take i)) ++ F)) (by exact kGives) Gives.move))
/-- Lists of lists, owned. -/
def matM (v : Value) (us : List Value) (m : List (List Int)) : List HProp := row 30 1 v m.length us :: innerM us m
def cubM : List Value → List (List Value) → List (List (List Int)) → List HProp
  | v :: vs, us :: uss, m :: q => matM v us m ++ cubM vs uss q
  | _, _, _ => []
theorem cubM_snoc : ∀ (vs : List Value) (uss : List (List Value)) (q : List (List (List Int))) (v : Value) (us : List Value) (m : List (List Int)), vs.length = q.length → uss.length = q.length → cubM (vs ++ [v]) (uss ++ [us]) (q ++ [m]) = cubM vs uss q ++ matM v us m
  | [], [], [], v, us, m, _, _ => by simp [cubM]
  | [], [], _ :: _, _, _, _, h, _ => by simp at h
  | [], _ :: _, [], _, _, _, _, h => by simp at h
  | [], _ :: _, _ :: _, _, _, _, h, _ => by simp at h
  | _ :: _, _, [], _, _, _, h, _ => by simp at h
  | _ :: _, [], _ :: _, _, _, _, _, h => by simp at h
  | a :: vs, b :: uss, c :: q, v, us, m, h1, h2 => by
    simp only [List.cons_append, cubM]
    rw [cubM_snoc vs uss q v us m (by simpa using h1) (by simpa using h2), List.append_assoc]
/-- A memory, owned: the arrays of tasks. -/
def cubA (v : Value) (vs : List Value) (uss : List (List Value)) (q : List (List (List Int))) : List HProp := row 27 1 v q.length vs :: cubM vs uss q
structure Lens (vs : List Value) (uss : List (List Value)) (q : List (List (List Int))) : Prop where
  l1 : vs.length = q.length
  l2 : uss.length = q.length
  each : ∀ (i : Nat) (us : List Value) (m : List (List Int)), uss[i]? = some us → q[i]? = some m → us.length = m.length
theorem Lens.nil : Lens [] [] [] := ⟨rfl, rfl, by simp⟩
theorem Lens.snoc {vs : List Value} {uss : List (List Value)} {q : List (List (List Int))} (h : Lens vs uss q) {v : Value} {us : List Value} {m : List (List Int)} (hl : us.length = m.length) : Lens (vs ++ [v]) (uss ++ [us]) (q ++ [m]) := by
  refine ⟨by simp [h.l1], by simp [h.l2], ?_⟩
  intro i a b h1 h2
  have := h.l2
  rcases Nat.lt_or_ge i uss.length with hi | hi
  · rw [List.getElem?_append_left hi] at h1
    rw [List.getElem?_append_left (by omega)] at h2
    exact h.each i a b h1 h2
  · rw [List.getElem?_append_right hi] at h1
    rw [List.getElem?_append_right (by omega)] at h2
    have h0 : i - uss.length = 0 := by
      rcases Nat.eq_zero_or_pos (i - uss.length) with h | h
      · exact h
      · rw [List.getElem?_eq_none (by simp; omega)] at h1; cases h1
    rw [h0] at h1
    rw [show i - q.length = 0 by omega] at h2
    simp at h1 h2
    subst h1 h2
    exact hl
def zeroMem (p : Prg) : Mem := ⟨p.tasks.map fun t => zerosL t.arrays, zerosL p.shared⟩
theorem New_spec (w0 : World) (hT : Tab w0) (p : Prg) (cs : List Value) (hf : Fit p) (hR : PrgR w0 p cs) :
    Spec Tryz.prog w0 43 #[.agg cs.toArray] [] (Ret (fun v N => (validB p = false ∧ v = .tuple #[.agg #[.slice none 0 0, .slice none 0 0], .int .i64 3] ∧ N = []) ∨
      (validB p = true ∧ ∃ vA vS vs uss us, v = .tuple #[.agg #[vA, vS], .int .i64 0] ∧ Lens vs uss (zeroMem p).arrays ∧ us.length = (zeroMem p).shared.length ∧ N = cubA vA vs uss (zeroMem p).arrays ++ matM vS us (zeroMem p).shared)) noP) := by
  have hV := Valid_spec w0 hT p cs hf hR
  obtain ⟨A1, c1, A2, c2, rfl, h1, h2, h3, h4⟩ := hR.ex
  obtain ⟨rows, hrl, hrows, hrt⟩ := h4.ex
  refine Spec.enter (args := [_]) Tryz.func43 rfl rfl rfl (fun F => ?_)
  refine kAutoB ?_
  (apply RL.boxR; exact kEv; exact rfl; intro b1)
  refine kAutoB ?_
  (apply RL.alloc; exact rfl; exact rfl; intro b2)
  refine kAutoB ?_
  (apply RL.callIs; exact kEv; exact inferInstance; exact kEvl; exact hV; exact rfl)
  cases hv : validB p
  · refine kAutoB ?_
    (apply RL.build (r := .agg #[.slice none 0 0, .slice none 0 0]); exact rfl; exact kEvl; (intro w; kernel_rfl); exact rfl)
    (apply RL.storeA; exact kEv; exact kEv; exact kTake; exact rfl; exact rfl; exact rfl)
    refine kAutoB ?_
    refine XJ.retCT rfl rfl rfl (HasAt.pt (Takes.here _ _) atAll) rfl [] (by exact kGives) (.inl ⟨rfl, rfl, rfl⟩)
  have hvv := hv
  rw [validB, Bool.and_eq_true, Bool.and_eq_true, arrsB, Bool.and_eq_true] at hvv
  obtain ⟨⟨⟨hv1, hv2⟩, hv3⟩, hv4⟩ := hvv
  have hv1' : p.shared.length ≤ 4 := by have := of_decide_eq_true hv1; omega
  have hv3' : p.tasks.length ≤ 8 := by have := of_decide_eq_true hv3; omega
  have harr : ∀ a : Arr, arrB a = true → 0 ≤ a.len ∧ a.len ≤ 1000000 := by
    intro a ha
    unfold arrB at ha
    simp only [Bool.and_eq_true, Bool.not_eq_true', decide_eq_false_iff_not] at ha
    omega
  have hZ := zeros_spec w0 A1 c1 p.shared (by omega) (fun a ha => harr a (List.all_eq_true.1 hv2 a ha)) h3
  refine kAutoB ?_
  (apply RL.callK; exact kEv; exact inferInstance; exact kEvl; exact (Takes.nil _); exact hZ; exact rfl)
  rintro _ _ ⟨vSA, vSc, us, rfl, hus, rfl⟩
  refine RL.gives Gives.front2 ?_
  refine kAutoB ?_
  (apply RL.build (r := .agg #[.slice none 0 0, .slice vSA p.shared.length vSc]); exact rfl; exact kEvl; (intro w; kernel_rfl); exact rfl)
  (apply RL.alloc; exact rfl; exact rfl; intro b4)
  (apply RL.storeA; exact kEv; exact kEv; exact kTake; exact rfl; exact rfl; exact rfl)
  refine kAutoB ?_
  have hp1 : Gives (cel b4 29 [.slice none 0 0, .slice vSA p.shared.length vSc] :: cel b2 29 [.slice none 0 0, .slice none 0 0] :: ((row 30 1 (.slice vSA p.shared.length vSc) p.shared.length us :: innerM us (zerosL p.shared)) ++ F)) (cel b4 29 [.slice none 0 0, .slice vSA p.shared.length vSc] :: row 27 1 (.slice none 0 0) 0 [] :: cel b2 29 [.slice none 0 0, .slice none 0 0] :: (cubM [] [] [] ++ ((row 30 1 (.slice vSA p.shared.length vSc) p.shared.length us :: innerM us (zerosL p.shared)) ++ F))) := by
    refine (row_nil 27 1).trans ?_
    exact Gives.cons (Takes.there (Takes.here _ _)) (Gives.cons (Takes.here _ _) (Gives.refl _))
  refine CJ.gives (M' := cel b4 29 [.slice none 0 0, .slice vSA p.shared.length vSc] :: cel b2 29 [.slice none 0 0, .slice none 0 0] :: ((row 30 1 (.slice vSA p.shared.length vSc) p.shared.length us :: innerM us (zerosL p.shared)) ++ F)) (by exact kGives) ?_
  refine CJ.gives hp1 ?_
  generalize hG : (row 30 1 (.slice vSA p.shared.length vSc) p.shared.length us :: innerM us (zerosL p.shared)) ++ F = G
  have hdef : ∀ i, zeroMem p = zeroMem p → (zeroMem p).arrays.take i = (p.tasks.take i).map fun t => zerosL t.arrays := fun i _ => by simp [zeroMem, List.map_take]
  refine CJ.loop (σ := Nat × Option Addr × Nat × List Value × List (List Value)) (fun s => s.1 ≤ p.tasks.length ∧ Lens s.2.2.2.1 s.2.2.2.2 ((zeroMem p).arrays.take s.1))
    (fun s => [(18, .int .i64 (s.1 : Int)), (17, .int .i64 p.tasks.length), (16, .slice A2 p.tasks.length c2), (4, .pointer (some ⟨b4, 0, none⟩)), (2, .pointer (some ⟨b2, 0, none⟩))])
    (fun s => cel b4 29 [.slice s.2.1 s.1 s.2.2.1, .slice vSA p.shared.length vSc] :: row 27 1 (.slice s.2.1 s.1 s.2.2.1) s.1 s.2.2.2.1 :: cel b2 29 [.slice none 0 0, .slice none 0 0] :: (cubM s.2.2.2.1 s.2.2.2.2 ((zeroMem p).arrays.take s.1) ++ G))
    (fun s => p.tasks.length - s.1) (0, none, 0, [], []) ⟨Nat.zero_le _, Lens.nil⟩ (by exact kEsub) (by exact kGives) ?_
  rintro ⟨i, Ao, co, vs, uss⟩ ⟨hi, hL⟩
  simp only at hi hL
  refine kAutoB ?_
  cases hlt : decide ((i : Int) < (p.tasks.length : Int))
  · have hge : i = p.tasks.length := by have := of_decide_eq_false hlt; omega
    have hz : (zeroMem p).arrays.take i = (zeroMem p).arrays := List.take_of_length_le (by simp [zeroMem, hge])
    rw [hz] at hL
    refine kAutoB ?_
    (apply RL.storeA; exact kEv; exact kEv; exact Takes.there (Takes.there (Takes.here _ _)); exact rfl; exact rfl; exact rfl)
    refine kAutoB ?_
    subst hge
    refine XJ.retCT rfl rfl rfl (HasAt.pt (Takes.here _ _) atAll) rfl (cubA (.slice Ao p.tasks.length co) vs uss (zeroMem p).arrays ++ matM (.slice vSA p.shared.length vSc) us (zeroMem p).shared) ?_ (.inr ⟨rfl, _, _, vs, uss, us, rfl, hL, by rw [hus]; simp [zeroMem, zerosL], rfl⟩)
    refine Gives.drop (Gives.drop ?_)
    have e1 : (zeroMem p).arrays.length = p.tasks.length := by simp [zeroMem]
    have e2 : (zeroMem p).shared.length = p.shared.length := by simp [zeroMem, zerosL]
    unfold cubA matM
    rw [e1, e2, hz, ← hG, List.append_assoc]
    exact Gives.refl _
  · have hlt' : i < p.tasks.length := by have := of_decide_eq_true hlt; omega
    obtain ⟨b, o, hA2, hrl', hb⟩ := hrows.at_ i (by omega)
    have hr := hrt i p.tasks[i] (rows[i]'(by omega)) (by simp [hlt']) (by simp [show i < rows.length by omega])
    obtain ⟨A5, c5, A6, c6, bs, hrr, g1, g2, g3, g4, g5⟩ := hr.ex
    obtain ⟨A7, c7, hbs, _⟩ := g5.kids
    subst hA2 hbs
    rw [hrr] at hb hrl'
    have htb := List.all_eq_true.1 hv4 _ (List.getElem_mem hlt')
    have hta : arrsB p.tasks[i].arrays 4 = true := by
      unfold taskB at htb
      simp only [Bool.and_eq_true] at htb
      exact htb.1.1.2
    unfold arrsB at hta
    rw [Bool.and_eq_true] at hta
    have htl : p.tasks[i].arrays.length ≤ 4 := by have := of_decide_eq_true hta.1; omega
    have hZ2 := zeros_spec w0 A6 c6 p.tasks[i].arrays (by omega) (fun a ha => harr a (List.all_eq_true.1 hta.2 a ha)) g4
    have hzt : (zeroMem p).arrays.take (i + 1) = (zeroMem p).arrays.take i ++ [zerosL p.tasks[i].arrays] := by
      rw [List.take_succ_eq_append_getElem (by simpa [zeroMem] using hlt')]
      simp [zeroMem]
    have hzlen : ((zeroMem p).arrays.take i).length = i := by simp [zeroMem]; omega
    refine kAutoB ?_
    apply RL.pur; (apply OpP.indexAddr; exact kEv; exact kEv; exact hlt'); exact rfl
    apply RL.pur; (apply OpP.loadA; exact kEv; exact HasAt.base hb; exact hrl'); exact rfl
    (apply RL.alloc; exact rfl; exact rfl; intro b6)
    refine kAutoB ?_
    (apply RL.storeW; exact kEv; exact kEv; exact kTake; exact rfl; exact rfl; exact rfl)
    refine kAutoB ?_
    (refine CJ.draws mixed 7 [cel b4 _ _, cel b6 _ _] (by exact kGives) (dom_of (by kernel_rfl)) ?_)
    ((first | refine kAjB 0 ?_ | refine kAjS 0 ?_); (first | refine kAjB 1 ?_ | refine kAjS 1 ?_); (first | refine kAjB 2 ?_ | refine kAjS 2 ?_); (first | refine kAjB 3 ?_ | refine kAjS 3 ?_))
    (refine AJ.loud1 (i := 4) (by kernel_rfl) (by kernel_rfl) rfl (by kernel_rfl) (by kernel_rfl) rfl rfl rfl rfl rfl rfl (OpS.call (by exact kEv) inferInstance (by exact kEvl) (Takes.nil _) hZ2) ?_ ?_)
    · rintro _ _ ⟨N, ⟨A8, c8, us8, rfl, hus8, rfl⟩, rfl⟩
      refine ⟨Gives.skipApp (by exact kGives), ?_⟩
      (refine AJ.loud1 (i := 5) (by kernel_rfl) (by kernel_rfl) rfl (by kernel_rfl) (by kernel_rfl) rfl rfl rfl rfl rfl rfl (OpS.buildSlice (E := 27) [.slice A8 p.tasks[i].arrays.length c8] rfl (by exact kEvl) (fun w => by kernel_rfl)) ?_ ?_)
      · rintro _ _ ⟨b9, rfl, rfl⟩
        refine ⟨Gives.drop (Gives.skipApp (by exact kGives)), ?_⟩
        (refine AJ.loud1 (i := 6) (by kernel_rfl) (by kernel_rfl) rfl (by kernel_rfl) (by kernel_rfl) rfl rfl rfl rfl rfl rfl (OpS.append (m := 1) (news := [.slice A8 p.tasks[i].arrays.length c8]) (by exact kEv) (by exact kEv) (Takes.there (Takes.appR _ (Takes.there (Takes.there (Takes.here _ _))))) (fun h m => ⟨rfl, by simp [Value.oneCell'], .inr ⟨_, _, _, rfl, HasAt.pt (Takes.here _ _) atAll⟩⟩) (by simp only [maxLen]; omega) (by omega)) ?_ ?_)
        · rintro _ _ ⟨⟨A10, c10, rfl⟩, rfl⟩
          refine ⟨Gives.drop (Gives.drop (Gives.skipApp (by exact kGives))), ?_⟩
          (refine AJ.tail (by kernel_rfl) (by kernel_rfl) rfl (by kernel_rfl) (by kernel_rfl) (by kernel_rfl) ?_)
          refine RL.gives (M' := cel b4 29 [.slice Ao i co, .slice vSA p.shared.length vSc] :: row 27 1 (.slice A10 (i + 1) c10) (i + 1) (vs ++ [.slice A8 p.tasks[i].arrays.length c8]) :: cel b2 29 [.slice none 0 0, .slice none 0 0] :: (cubM (vs ++ [.slice A8 p.tasks[i].arrays.length c8]) (uss ++ [us8]) ((zeroMem p).arrays.take (i + 1)) ++ G)) ?_ ?_
          · have e1 : (zerosL p.tasks[i].arrays).length = p.tasks[i].arrays.length := by simp [zerosL]
            rw [hzt, cubM_snoc _ _ _ _ _ _ hL.l1 hL.l2]
            unfold matM
            rw [e1]
            refine Gives.cons (Takes.there (Takes.there (Takes.appR _ (Takes.there (Takes.here _ _))))) (Gives.cons (Takes.here _ _) (Gives.cons (Takes.there (Takes.appR _ (Takes.there (Takes.here _ _)))) (Gives.drop ((Takes.drop2 _ _ _).trans Gives.swapApp))))
          refine kAutoB ?_
          (apply RL.store; exact kEv; exact kEv; exact Takes.here _ _; exact rfl; exact rfl; exact rfl)
          refine kAutoB ?_
          rw [i64_succ i (by omega)]
          refine XJ.round (i + 1, A10, c10, vs ++ [.slice A8 p.tasks[i].arrays.length c8], uss ++ [us8]) ⟨by simp only; omega, ?_⟩ (by simp only; omega) (by exact kEsub) (by exact kGives)
          rw [hzt]
          exact hL.snoc (by rw [hus8]; simp [zerosL])
        · rintro _ _ h; exact h.elim
      · rintro _ _ h; exact h.elim
    · rintro _ _ ⟨_, h, _⟩; exact h.elim
end Go.Proofs.YtgmapenlgammfaaGreatDoor
