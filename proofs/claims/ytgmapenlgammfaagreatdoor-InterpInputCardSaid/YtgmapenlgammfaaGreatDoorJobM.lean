/- A job's state as it lies in memory; expressions, arrays, steps over it. -/
import Derived.Test.YtgmapenlgammfaaGreatDoorOwn
import Derived.Test.YtgmapenlgammfaaGreatDoorRun
import Derived.Test.YtgmapenlgammfaaGreatDoorEvalW
set_option linter.all false
namespace Go.Proofs.YtgmapenlgammfaaGreatDoor
open Go

def rowI (u : Value) (l : List Int) : HProp := row 21 1 u l.length (l.map intV)
theorem innerM_perm : ∀ (a : Nat) (us : List Value) (cs : List (List Int)) (u : Value) (l : List Int), us[a]? = some u → cs[a]? = some l → (innerM us cs).Perm (rowI u l :: innerM (us.eraseIdx a) (cs.eraseIdx a))
  | _, [], _, _, _, h, _ => by simp at h
  | _, _ :: _, [], _, _, _, h => by simp at h
  | 0, x :: us, y :: cs, u, l, h1, h2 => by
    simp at h1 h2
    subst h1; subst h2
    exact .refl _
  | a + 1, x :: us, y :: cs, u, l, h1, h2 => by
    simp only [List.getElem?_cons_succ] at h1 h2
    simp only [List.eraseIdx_cons_succ, innerM]
    exact ((innerM_perm a us cs u l h1 h2).cons _).trans (.swap _ _ _)
theorem eraseIdx_set {α : Type} : ∀ (a : Nat) (l : List α) (x : α), (l.set a x).eraseIdx a = l.eraseIdx a
  | _, [], _ => by simp
  | 0, _ :: _, _ => by simp
  | a + 1, y :: l, x => by simp [eraseIdx_set a l x]
section
attribute [local semireducible] Takes Gives
theorem innerM_take {us : List Value} {cs : List (List Int)} {a : Nat} {u : Value} {l : List Int} (h1 : us[a]? = some u) (h2 : cs[a]? = some l) (F : List HProp) : Takes (innerM us cs ++ F) [rowI u l] (innerM (us.eraseIdx a) (cs.eraseIdx a) ++ F) := fun h m =>
  star.perm ((innerM_perm a us cs u l h1 h2).append_right F) m
theorem innerM_put {us : List Value} {cs : List (List Int)} {a : Nat} {u : Value} (l : List Int) (h1 : us[a]? = some u) (h2 : a < cs.length) (F : List HProp) : Gives (rowI u l :: (innerM (us.eraseIdx a) (cs.eraseIdx a) ++ F)) (innerM us (cs.set a l) ++ F) := fun h m => by
  have := (innerM_perm a us (cs.set a l) u l h1 (by simp [h2])).append_right F
  rw [eraseIdx_set] at this
  exact star.perm this.symm m
end
/-- Where a job's state lies. -/
structure JP where
  bm : Nat
  rv : Nat
  ra : Nat
  br : Nat
  us : List Value
  inV : Value
  mA : Value
  mS : Value
def outCells (l : List (Int × Int)) : List Value := l.flatMap fun p => [.int .i64 p.1, intV p.2]
theorem outCells_length (l : List (Int × Int)) : (outCells l).length = l.length * 2 := by
  induction l with
  | nil => rfl
  | cons p r ih => simp only [outCells, List.flatMap_cons, List.length_append, List.length_cons, List.length_nil] at *; omega
def arrV (J : JP) (E : JE) : ByteArray → Option Value := fun nm => (E.ix nm).map fun i => J.us.getD i undef
def machV (J : JP) (E : JE) : List Value := [.map (some J.rv), .map (some J.ra), J.inV, .int .i64 E.fuel, .pointer (some ⟨J.br, 0, none⟩)]
def resV (J : JP) (s : JS) (A : Option Addr) (c : Nat) (e : Int) : List Value := [J.mA, J.mS, .slice A s.out.length c, .int .i64 s.read, .int .i64 s.steps, .int .i64 e]
def jobM (J : JP) (E : JE) (s : JS) (A : Option Addr) (c : Nat) : List HProp :=
  rcel J.bm 114 (machV J E) :: rmp Value.string J.ra (arrV J E) :: mp Value.string J.rv (fun nm => (s.vars nm).map intV)
    :: cel J.br 37 (resV J s A c 0) :: row 106 2 (.slice A s.out.length c) s.out.length (outCells s.out) :: innerM J.us s.cells
/-- The head of a job's memory: all but the arrays' cells. -/
def jobH (J : JP) (E : JE) (s : JS) (A : Option Addr) (c : Nat) : List HProp :=
  [rcel J.bm 114 (machV J E), rmp Value.string J.ra (arrV J E), mp Value.string J.rv (fun nm => (s.vars nm).map intV),
    cel J.br 37 (resV J s A c 0), row 106 2 (.slice A s.out.length c) s.out.length (outCells s.out)]
section
attribute [local semireducible] Takes Gives
theorem job_take {J : JP} {E : JE} {s : JS} {A : Option Addr} {c a : Nat} {u : Value} {l : List Int} (h1 : J.us[a]? = some u) (h2 : s.cells[a]? = some l) (Z : List HProp) :
    Takes (jobM J E s A c ++ Z) [rowI u l] (jobH J E s A c ++ (innerM (J.us.eraseIdx a) (s.cells.eraseIdx a) ++ Z)) := by
  have := Takes.appR (jobH J E s A c) (innerM_take h1 h2 Z)
  rw [← List.append_assoc] at this
  exact this
theorem job_put {J : JP} {E : JE} {s : JS} {A : Option Addr} {c a : Nat} {u : Value} (l : List Int) (h1 : J.us[a]? = some u) (h2 : a < s.cells.length) (Z : List HProp) :
    Gives (rowI u l :: (jobH J E s A c ++ (innerM (J.us.eraseIdx a) (s.cells.eraseIdx a) ++ Z))) (jobM J E { s with cells := s.cells.set a l } A c ++ Z) := fun h m => by
  have m1 : star (jobH J E s A c ++ (rowI u l :: (innerM (J.us.eraseIdx a) (s.cells.eraseIdx a) ++ Z))) h := star.perm List.perm_middle.symm m
  obtain ⟨g1, g2, l1, l2, d, x, y⟩ := m1.split
  have y' := innerM_put l h1 h2 Z _ y
  have := star.join l1 l2 d x y'
  rw [← List.append_assoc] at this
  exact this
theorem RL.fact {P : Program} {w0 : World} {n : Nat} {ops : Array Oper} {Q : Exit → Act → World → Prop} {l : List Oper} {L : Env} {M : List HProp} {p : Prop} (f : ∀ h, star M h → p) (k : p → RL P w0 n ops Q l L M) : RL P w0 n ops Q l L M := by
  unfold RL at *
  exact fun a w h s m t => k (f h m) a w h s m t
attribute [local semireducible] row in
theorem row_addr {u : Value} {l : List Int} {M M' : List HProp} {h : Frag} (t : Takes M [rowI u l] M') (m : star M h) (hl : 0 < l.length) : ∃ b c, u = .slice (some ⟨b, 0, none⟩) l.length c := by
  obtain ⟨h1, h2, l1, l2, dd, ⟨e1, e2, e3⟩, m2⟩ := t h m
  rcases e3 with ⟨e, e'⟩ | ⟨g, cap, cur, e, _⟩
  · omega
  · exact ⟨g, cap, e⟩
theorem row_slice {u : Value} {l : List Int} {M M' : List HProp} {h : Frag} (t : Takes M [rowI u l] M') (m : star M h) : ∃ A c, u = .slice A l.length c := row_shape (t h m)
end
/-- What stays the same during a job. -/
structure JobF (w0 : World) (J : JP) (E : JE) (lens : List Nat) : Prop where
  us : J.us.length = lens.length
  ix : ∀ nm i, E.ix nm = some i → i < lens.length
  lens : ∀ n ∈ lens, n ≤ 1000000
  fuel : E.fuel ≤ 1000000
  inV : IntsR w0 J.inV E.inp
  inp : ∀ x ∈ E.inp, I32 x
  inl : E.inp.length ≤ 1000000000
theorem OKJ.len {E : JE} {lens : List Nat} {s : JS} (h : OKJ E lens s) : s.cells.length = lens.length := by rw [← h.lens]; simp
theorem OKJ.steps_le {w0 : World} {J : JP} {E : JE} {lens : List Nat} {s : JS} (h : OKJ E lens s) (k : JobF w0 J E lens) : s.steps ≤ 1000000 := by
  have := k.fuel
  rcases h.steps with h | h <;> omega
theorem row_ints {w0 w : World} {h : Frag} {M M' : List HProp} {u : Value} {l : List Int} (t : Takes M [rowI u l] M') (mm : star M h) (s : Go.Proofs.YtgmapenlgammfaaGreatDoor.Sat w0 w h) : IntsR w u l := by
  have tt := t
  unfold Takes at tt
  obtain ⟨A, c, rfl⟩ := row_shape (tt h mm)
  obtain ⟨h1, h2⟩ := row_rows t mm s
  exact ⟨A, c, rfl, h1, h2⟩
theorem jobM_env {w0 w : World} {h : Frag} {J : JP} {E : JE} {lens : List Nat} {s : JS} {A : Option Addr} {c : Nat} {F : List HProp} (k : JobF w0 J E lens) (o : OKJ E lens s) (m : star (jobM J E s A c ++ F) h) (sa : Go.Proofs.YtgmapenlgammfaaGreatDoor.Sat w0 w h) : EnvB w J.rv J.ra s.vars (envA E s) := by
  refine ⟨mp_mapB (M := jobM J E s A c ++ F) (by unfold jobM; exact kTake) m sa, ⟨arrV J E, rmp_mapB (M := jobM J E s A c ++ F) (by unfold jobM; exact kTake) m sa, ?_, ?_⟩, o.vars, o.envA⟩
  · intro nm hn
    unfold envA at hn
    unfold arrV
    rw [Option.map_eq_none_iff] at hn ⊢
    exact hn
  · intro nm l hn
    unfold envA at hn
    obtain ⟨i, hi, rfl⟩ := Option.map_eq_some_iff.1 hn
    have h1 := k.ix nm i hi
    have h2 := o.len
    have h3 := k.us
    refine ⟨J.us[i]'(by omega), by unfold arrV; rw [hi]; simp [List.getD_eq_getElem?_getD, show i < J.us.length by omega], ?_⟩
    have hc : s.cells[i]? = some (s.cells.getD i []) := by simp [List.getD_eq_getElem?_getD, show i < s.cells.length by omega]
    exact row_ints (job_take (u := J.us[i]'(by omega)) (by simp [show i < J.us.length by omega]) hc F) m sa
theorem eval_own (w0 : World) {J : JP} {E : JE} {lens : List Nat} (k : JobF w0 J E lens) {s : JS} (o : OKJ E lens s) (A : Option Addr) (c : Nat) (n : Node) (cs : List Value) (hs : n.size < 4611686018427387904) (hR : NodeR w0 n cs) (hB : isB n 1 = true) :
    Spec Tryz.prog w0 70 #[.agg #[.map (some J.rv), .map (some J.ra)], .agg cs.toArray] (jobM J E s A c)
      (Ret (fun v N => resE (evJ E s n) = .ok v ∧ N = jobM J E s A c) (fun p N => resE (evJ E s n) = .error p ∧ N = jobM J E s A c)) :=
  Spec.rebaseE fun w h m sa => eval_spec w J.rv J.ra s.vars (envA E s) (jobM_env (F := []) k o (by simpa using m) sa) n.size n cs (Nat.le_refl _) hs (hR.up sa.below) hB
theorem resE_ok {r : Except Int Int} {v : Value} (h : resE r = .ok v) : ∃ x, r = .ok x ∧ v = .int .i32 x := by
  cases r with
  | error e => cases h
  | ok x => injection h with h; exact ⟨x, rfl, h.symm⟩
theorem resE_err {r : Except Int Int} {p : List PanicEntry} (h : resE r = .error p) : ∃ e, r = .error e ∧ p = stopV e := by
  cases r with
  | error e => injection h with h; exact ⟨e, rfl, h.symm⟩
  | ok x => cases h
/-- What a call on the machine comes to: r's error, its state in memory. -/
abbrev JRes (J : JP) (E : JE) (r : JR) : Ending → List HProp → Prop :=
  Ret (fun v N => r.2 = none ∧ v = .tuple #[] ∧ ∃ A c, N = jobM J E r.1 A c) (fun p N => ∃ e, r.2 = some e ∧ p = stopV e ∧ ∃ A c, N = jobM J E r.1 A c)
/-- The same with what stays beside it. -/
abbrev SRes (J : JP) (E : JE) (X : List HProp) (r : JR) : Ending → List HProp → Prop :=
  Ret (fun v N => r.2 = none ∧ v = .tuple #[] ∧ ∃ A c, N = jobM J E r.1 A c ++ X) (fun p N => ∃ e, r.2 = some e ∧ p = stopV e ∧ ∃ A c, N = jobM J E r.1 A c ++ X)
/-- The same with a value. -/
abbrev GRes (J : JP) (E : JE) (X : List HProp) (r : JS × Except Int Int) : Ending → List HProp → Prop :=
  Ret (fun v N => ∃ x, r.2 = .ok x ∧ v = .int .i32 x ∧ ∃ A c, N = jobM J E r.1 A c ++ X) (fun p N => ∃ e, r.2 = .error e ∧ p = stopV e ∧ ∃ A c, N = jobM J E r.1 A c ++ X)
end Go.Proofs.YtgmapenlgammfaaGreatDoor
