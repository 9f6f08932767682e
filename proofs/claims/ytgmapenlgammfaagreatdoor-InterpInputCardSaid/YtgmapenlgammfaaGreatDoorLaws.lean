/- What a job comes to, as plain laws: sizes, fuel, input. -/
import Derived.Test.YtgmapenlgammfaaGreatDoorBig
import Derived.Test.YtgmapenlgammfaaGreatDoorRunnable
import Derived.Test.YtgmapenlgammfaaGreatDoorSame
import Derived.Test.YtgmapenlgammfaaGreatDoorRunLaws
import Derived.Test.YtgmapenlgammfaaGreatDoorJob
set_option linter.all false
namespace Go.Proofs.YtgmapenlgammfaaGreatDoor
open Go

/-- What is not too great is small. -/
theorem fit_of_great {p : Prg} (h : greatP p = false) : Fit p := by
  unfold greatP at h
  simp only [Bool.or_eq_false_iff, decide_eq_false_iff_not, List.any_eq_false] at h
  obtain ⟨⟨h1, h2⟩, h3⟩ := h
  refine ⟨by omega, by omega, ?_⟩
  intro t ht
  have := h3 t ht
  unfold greatT at this
  simp only [Bool.not_eq_true, Bool.or_eq_false_iff, decide_eq_false_iff_not] at this
  obtain ⟨⟨g1, g2⟩, g3⟩ := this
  have := bigB_size g3
  omega
structure Small (m : Mem) (inp : List Int) : Prop where
  len : m.arrays.length ≤ 10
  each : ∀ q ∈ m.arrays, q.length ≤ 10 ∧ ∀ l ∈ q, l.length ≤ 70
  sh : m.shared.length ≤ 10 ∧ ∀ l ∈ m.shared, l.length ≤ 70
  inp : inp.length ≤ 40
theorem smallB_le {m : List (List Int)} (h : smallB m = true) : m.length ≤ 10 ∧ ∀ l ∈ m, l.length ≤ 70 := by
  unfold smallB at h
  simp only [Bool.and_eq_true, List.all_eq_true, Bool.not_eq_true', decide_eq_false_iff_not, decide_eq_true_eq] at h
  exact ⟨by omega, fun l hl => by have := h.1 l hl; omega⟩
theorem small_of_great {p : Prg} {m : Mem} {inp : List Int} (h : greatL p m inp = false) : Fit p ∧ Small m inp := by
  unfold greatL at h
  simp only [Bool.or_eq_false_iff, Bool.not_eq_false', decide_eq_false_iff_not, List.any_eq_false, Bool.not_eq_true, Bool.not_eq_false'] at h
  obtain ⟨⟨⟨⟨h1, h2⟩, h3⟩, h4⟩, h5⟩ := h
  exact ⟨fit_of_great h1, ⟨by omega, fun q hq => smallB_le (h5 q hq), smallB_le h2, by omega⟩⟩
/-- What can run. -/
structure Runs (p : Prg) (t : Int) (m : Mem) : Prop where
  ok : okB p = true
  lo : 0 ≤ t
  hi : t < (p.tasks.length : Int)
  fits : fitsB p m = true
theorem runs_of {p : Prg} {t : Int} {m : Mem} (h : runB p t m = true) : Runs p t m := by
  unfold runB refFitsB at h
  simp only [Bool.and_eq_true, decide_eq_true_eq] at h
  obtain ⟨⟨⟨h1, h2⟩, h3⟩, ⟨_, h5⟩, h6⟩ := h
  refine ⟨h1, by omega, h3, ?_⟩
  unfold fitsB
  rw [h5, h6]
  unfold okB at h1
  rw [Bool.and_eq_true] at h1
  rw [h1.1]
  rfl
theorem Runs.all {p : Prg} {t : Int} {m : Mem} (h : Runs p t m) (inp : List Int) (fuel : Int) : jobAll p t m inp fuel = jobRun p t.toNat m inp fuel := by
  unfold jobAll
  rw [if_neg (by rw [h.ok]; simp), if_neg (by have := h.lo; have := h.hi; omega), if_neg (by rw [h.fits]; simp)]
/-- The task, its arrays. -/
def tsk (p : Prg) (t : Int) : Task := p.tasks.getD t.toNat task0
def own (m : Mem) (t : Int) : List (List Int) := m.arrays.getD t.toNat []
/-- The run of a task's body. -/
def bodyRun (p : Prg) (t : Int) (m : Mem) (inp : List Int) (fuel : Int) : JR := execN (jobE (tsk p t) p inp fuel) (tsk p t).body (job0 (tsk p t) (own m t) m.shared)
theorem Runs.run {p : Prg} {t : Int} {m : Mem} (h : Runs p t m) (inp : List Int) (fuel : Int) : jobAll p t m inp fuel = jobFin m t.toNat (own m t).length (bodyRun p t m inp fuel) := h.all inp fuel
theorem getD_mem0 {α : Type} {l : List α} {i : Nat} {d : α} (h : i < l.length) : l.getD i d ∈ l := by
  rw [List.getD_eq_getElem?_getD, List.getElem?_eq_getElem h]
  exact List.getElem_mem h
theorem Runs.lens {p : Prg} {t : Int} {m : Mem} (h : Runs p t m) (hf : Fit p) : t.toNat < m.arrays.length ∧ t.toNat < p.tasks.length := by
  have := (fits_facts hf h.fits).ar
  have := h.lo
  have := h.hi
  omega
theorem Runs.ok0 {p : Prg} {t : Int} {m : Mem} (h : Runs p t m) (hf : Fit p) (h32 : Mem32 m) (inp : List Int) (hi : ∀ x ∈ inp, I32 x) (fuel : Int) : OKJ (jobE (tsk p t) p inp fuel) ((own m t ++ m.shared).map List.length) (bodyRun p t m inp fuel).1 := by
  refine execN_ok _ hi ⟨?_, ?_, rfl, Nat.le_refl _, Nat.le_refl _, .inl rfl⟩
  · intro nm x hx
    simp only [job0, varsOf] at hx
    split at hx
    · injection hx with hx; subst hx; exact .zero
    · cases hx
  · intro l hl x hx
    simp only [job0, List.mem_append] at hl
    rcases hl with hl | hl
    · exact h32.arrays _ (getD_mem0 (h.lens hf).1) l hl x hx
    · exact h32.shared l hl x hx
theorem map_len {l : List (List Int)} {n : List Nat} (h : l.map List.length = n) {x : List Int} (hx : x ∈ l) : x.length ∈ n := by
  rw [← h]; exact List.mem_map_of_mem hx
/-- What a job leaves is as great as what it found. -/
theorem Runs.sizes {p : Prg} {t : Int} {m : Mem} (h : Runs p t m) (hf : Fit p) (h32 : Mem32 m) {inp : List Int} (hi : ∀ x ∈ inp, I32 x) (hs : Small m inp) (fuel : Int) (hfu : fuel ≤ 1000000) : MemL (jobAll p t m inp fuel).mem ∧ (jobAll p t m inp fuel).out.length ≤ 1000000 ∧ (jobAll p t m inp fuel).steps ≤ 1000000 ∧ (jobAll p t m inp fuel).read ≤ 1000000 := by
  have o := h.ok0 hf h32 inp hi fuel
  have ho := hs.each _ (getD_mem0 (d := []) (h.lens hf).1)
  rw [h.run]
  generalize hr : bodyRun p t m inp fuel = r at *
  have hst : r.1.steps ≤ 1000000 := by
    rcases o.steps with h0 | h0
    · omega
    · have : (jobE (tsk p t) p inp fuel).fuel = fuel := rfl
      omega
  have hc : ∀ l ∈ r.1.cells, l.length ≤ 70 := by
    intro l hl
    have hm := map_len o.lens hl
    obtain ⟨x, hx, e⟩ := List.mem_map.1 hm
    rw [← e]
    rcases List.mem_append.1 hx with hx | hx
    · exact ho.2 x hx
    · exact hs.sh.2 x hx
  have hl : r.1.cells.length ≤ 20 := by
    have := congrArg List.length o.lens
    simp only [List.length_map, List.length_append] at this
    have h1 : (own m t).length ≤ 10 := ho.1
    have := hs.sh.1
    omega
  unfold jobFin
  simp only [maxLen]
  refine ⟨⟨?_, ?_, ?_, ?_⟩, by have := o.out; omega, hst, by have := o.read; omega⟩
  · simp only [List.length_set, maxLen]; have := hs.len; omega
  · intro q hq
    rcases List.mem_or_eq_of_mem_set hq with hq | rfl
    · have := hs.each q hq
      exact ⟨by simp only [maxLen]; omega, fun l hl => by have := this.2 l hl; simp only [maxLen]; omega⟩
    · refine ⟨by simp only [List.length_take, maxLen]; omega, fun l hl => by have := hc l (List.mem_of_mem_take hl); simp only [maxLen]; omega⟩
  · simp only [List.length_drop, maxLen]; omega
  · intro l hl; have := hc l (List.mem_of_mem_drop hl); simp only [maxLen]; omega
theorem jobFin_err {m : Mem} {t n : Nat} {r : JR} : (jobFin m t n r).err = 13 ↔ r.2 = some 13 := by
  unfold jobFin
  cases r.2 <;> simp
/-- A job that the fuel ended made as many steps. -/
theorem Runs.out {p : Prg} {t : Int} {m : Mem} (h : Runs p t m) (inp : List Int) {fuel : Int} (h0 : 0 ≤ fuel) (e : (jobAll p t m inp fuel).err = 13) : ((jobAll p t m inp fuel).steps : Int) = fuel := by
  rw [h.run] at e ⊢
  have hF := fuelClosed.exec (tsk p t).body (jobE (tsk p t) p inp fuel) (job0 (tsk p t) (own m t) m.shared)
  have h1 := hF.out13 (jobFin_err.1 e)
  have h2 := hF.bound h0
  have : (jobE (tsk p t) p inp fuel).fuel = fuel := rfl
  rw [this] at h1 h2
  exact Int.le_antisymm h2 h1
theorem Runs.enough {p : Prg} {t : Int} {m : Mem} (h : Runs p t m) (inp : List Int) {fuel g : Int} (e : (jobAll p t m inp fuel).err ≠ 13) (hg : ((jobAll p t m inp fuel).steps : Int) ≤ g) : jobAll p t m inp g = jobAll p t m inp fuel := by
  rw [h.run] at e hg ⊢
  rw [h.run]
  have hF := fuelClosed.exec (tsk p t).body (jobE (tsk p t) p inp fuel) (job0 (tsk p t) (own m t) m.shared)
  have := hF.enough g (fun x => e (jobFin_err.2 x)) hg
  exact congrArg (jobFin m t.toNat (own m t).length) this
theorem Runs.less {p : Prg} {t : Int} {m : Mem} (h : Runs p t m) (inp : List Int) {fuel g : Int} (e : (jobAll p t m inp fuel).err ≠ 13) (h0 : 0 ≤ g) (hg : g < ((jobAll p t m inp fuel).steps : Int)) :
    (jobAll p t m inp g).err = 13 ∧ ((jobAll p t m inp g).steps : Int) = g ∧ (jobAll p t m inp g).read ≤ (jobAll p t m inp fuel).read ∧ (jobAll p t m inp g).out <+: (jobAll p t m inp fuel).out := by
  rw [h.run] at e hg ⊢
  rw [h.run]
  have hF := fuelClosed.exec (tsk p t).body (jobE (tsk p t) p inp fuel) (job0 (tsk p t) (own m t) m.shared)
  obtain ⟨s', h1, h2, h3, h4⟩ := hF.less g (fun x => e (jobFin_err.2 x)) h0 hg
  have : bodyRun p t m inp g = (s', some 13) := h1
  rw [this]
  exact ⟨rfl, h2, h3, h4⟩
/-- A job does not depend on values beyond those that it receives. -/
theorem Runs.input {p : Prg} {t : Int} {m : Mem} (h : Runs p t m) (inp l : List Int) (fuel : Int) (e : ∀ i, i < (jobAll p t m inp fuel).read → inp.getD i 0 = l.getD i 0) : jobAll p t m l fuel = jobAll p t m inp fuel := by
  rw [h.run] at e ⊢
  rw [h.run]
  have := (inpClosed.exec (tsk p t).body (jobE (tsk p t) p inp fuel) (job0 (tsk p t) (own m t) m.shared)).2 l e
  exact congrArg (jobFin m t.toNat (own m t).length) this
theorem sameB_refl (r : JobRes) (all : Bool) : sameB r r all = true := by
  unfold sameB
  rw [(eqMem_iff _ _).2 rfl]
  simp
end Go.Proofs.YtgmapenlgammfaaGreatDoor
