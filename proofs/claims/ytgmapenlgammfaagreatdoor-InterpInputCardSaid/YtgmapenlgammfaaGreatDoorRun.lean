/- The execution of statements as plain Lean: states, statements, blocks; what every execution keeps. -/
import Derived.Test.YtgmapenlgammfaaGreatDoorRange
set_option linter.all false
namespace Go.Proofs.YtgmapenlgammfaaGreatDoor
open Go

/-- The state of a job. -/
structure JS where
  vars : ByteArray → Option Int
  cells : List (List Int)
  out : List (Int × Int)
  read : Nat
  steps : Nat
/-- What a job's state stands in: where an array's cells are, the values to receive, the fuel. -/
structure JE where
  ix : ByteArray → Option Nat
  inp : List Int
  fuel : Int
abbrev JR := JS × Option Int
def bindJ (r : JR) (f : JS → JR) : JR := match r.2 with
  | none => f r.1
  | some e => (r.1, some e)
def noJ (s : JS) : JR := (s, none)
def updI (m : ByteArray → Option Int) (k : ByteArray) (v : Int) : ByteArray → Option Int := fun j => if j = k then some v else m j
def delI (m : ByteArray → Option Int) (k : ByteArray) : ByteArray → Option Int := fun j => if j = k then none else m j
def envA (E : JE) (s : JS) : ByteArray → Option (List Int) := fun nm => (E.ix nm).map fun i => s.cells.getD i []
def evJ (E : JE) (s : JS) (n : Node) : Except Int Int := evalE s.vars (envA E s) n
def stepJ (E : JE) (s : JS) : JR := if (s.steps : Int) ≥ E.fuel then (s, some 13) else ({ s with steps := s.steps + 1 }, none)
def setVar (s : JS) (nm : ByteArray) (v : Int) : JS := { s with vars := updI s.vars nm v }
def setCell (s : JS) (a : Nat) (i v : Int) : JS := { s with cells := s.cells.set a ((s.cells.getD a []).set i.toNat v) }
def recvJ (E : JE) (s : JS) : JS × Except Int Int := ({ s with read := s.read + 1 }, .ok (E.inp.getD s.read 0))
def kid (l : List Node) (i : Nat) : Node := l.getD i node0
/-- A store into a place; g gives the value. -/
def storeJ (E : JE) (place : Node) (early : Bool) (g : JS → JS × Except Int Int) (s : JS) : JR :=
  if place.kind = 2 then match g s with
    | (s1, .error e) => (s1, some e)
    | (s1, .ok v) => (setVar s1 place.name v, none)
  else match E.ix place.name with
    | none => (s, some 6)
    | some a => match evJ E s (kid place.kids 0) with
      | .error e => (s, some e)
      | .ok i =>
        if early then match g s with
          | (s1, .error e) => (s1, some e)
          | (s1, .ok v) => if idxB i (s.cells.getD a []).length then (setCell s1 a i v, none) else (s1, some 11)
        else if idxB i (s.cells.getD a []).length then match g s with
          | (s1, .error e) => (s1, some e)
          | (s1, .ok v) => (setCell s1 a i v, none)
        else (s, some 11)
def seqJ : List (JS → JR) → JS → JR
  | [], s => (s, none)
  | f :: r, s => bindJ (f s) (seqJ r)
/-- The rounds of a For statement from round i, k are left. -/
def forJ (E : JE) (nm : ByteArray) (body : JS → JR) : Nat → Int → JS → JR
  | 0, _, s => ({ s with vars := delI s.vars nm }, none)
  | k + 1, i, s => bindJ (stepJ E s) fun s => bindJ (body (setVar s nm (IntKind.i32.wrap i))) (forJ E nm body k (i + 1))
def ifJ (E : JE) (c : Node) (a b : JS → JR) (s : JS) : JR := match evJ E s c with
  | .error e => (s, some e)
  | .ok v => if v = 0 then b s else a s
/-- The rounds of a While statement, k may be left. -/
def whileJ (E : JE) (c : Node) (body : JS → JR) : Nat → JS → JR
  | 0 => fun s => bindJ (stepJ E s) (ifJ E c (fun s => (s, some 11)) noJ)
  | k + 1 => fun s => bindJ (stepJ E s) (ifJ E c (fun s => bindJ (body s) (whileJ E c body k)) noJ)
def outJ (E : JE) (c : Node) (port : Int) (s : JS) : JR := match evJ E s c with
  | .error e => (s, some e)
  | .ok v => ({ s with out := s.out ++ [(port, v)] }, none)
def stmtJ (E : JE) (k num : Int) (nm : ByteArray) (kids : List Node) (ks : List (JS → JR)) (s : JS) : JR :=
  if k = 40 then storeJ E (kid kids 0) true (fun s => (s, evJ E s (kid kids 1))) s
  else if k = 41 then ifJ E (kid kids 0) (ks.getD 1 noJ) (ks.getD 2 noJ) s
  else if k = 42 then forJ E nm (ks.getD 0 noJ) num.toNat 0 s
  else if k = 43 then whileJ E (kid kids 0) (ks.getD 1 noJ) num.toNat s
  else if k = 44 then storeJ E (kid kids 0) false (recvJ E) s
  else if k = 45 then outJ E (kid kids 0) num s
  else if k = 46 then ks.getD 0 noJ s
  else (s, none)
def nodeJ (E : JE) (k num : Int) (nm : ByteArray) (kids : List Node) (ks : List (JS → JR)) (s : JS) : JR :=
  if k = 47 then seqJ ks s else bindJ (stepJ E s) (stmtJ E k num nm kids ks)
mutual
/-- A statement, or a block. -/
def execN (E : JE) : Node → JS → JR
  | .mk k n s kids => nodeJ E k n s kids (execL E kids)
def execL (E : JE) : List Node → List (JS → JR)
  | [] => []
  | n :: r => execN E n :: execL E r
end
theorem execL_map (E : JE) (l : List Node) : execL E l = l.map (execN E) := by
  induction l with
  | nil => rfl
  | cons n r ih => simp [execL, ih]
theorem bindJ_none {r : JR} {f : JS → JR} (h : r.2 = none) : bindJ r f = f r.1 := by unfold bindJ; rw [h]
theorem bindJ_some {r : JR} {f : JS → JR} {e : Int} (h : r.2 = some e) : bindJ r f = (r.1, some e) := by unfold bindJ; rw [h]


/-! ### what is closed under the forms of statements holds for all executions -/
abbrev JF := JE → JS → JR
structure Closed (P : JF → Prop) : Prop where
  no : P (fun _ s => (s, none))
  bind : ∀ f g : JF, P f → P g → P (fun E s => bindJ (f E s) (g E))
  step : P stepJ
  bound : P (fun _ s => (s, some 11))
  var : ∀ nm v, I32 v → P (fun _ s => (setVar s nm v, none))
  del : ∀ nm, P (fun _ s => ({ s with vars := delI s.vars nm }, none))
  test : ∀ c (f g : JF), P f → P g → P (fun E s => ifJ E c (f E) (g E) s)
  out : ∀ c port, P (fun E s => bindJ (stepJ E s) (outJ E c port))
  assign : ∀ place c, P (fun E s => bindJ (stepJ E s) (storeJ E place true (fun s => (s, evJ E s c))))
  inp : ∀ place, P (fun E s => bindJ (stepJ E s) (storeJ E place false (recvJ E)))
section
variable {P : JF → Prop}
theorem Closed.seq (C : Closed P) : ∀ fs : List JF, (∀ f ∈ fs, P f) → P (fun E => seqJ (fs.map (· E)))
  | [], _ => C.no
  | f :: r, h => C.bind f (fun E => seqJ (r.map fun g : JF => g E)) (h f (by simp)) (C.seq r fun g hg => h g (by simp [hg]))
theorem Closed.for_ (C : Closed P) (nm : ByteArray) (body : JF) (hb : P body) : ∀ k i, P (fun E => forJ E nm (body E) k i)
  | 0, _ => C.del nm
  | k + 1, i => C.bind stepJ (fun E s => bindJ (body E (setVar s nm (IntKind.i32.wrap i))) (forJ E nm (body E) k (i + 1))) C.step
      (C.bind (fun E s => body E (setVar s nm (IntKind.i32.wrap i))) (fun E => forJ E nm (body E) k (i + 1)) (C.bind (fun _ s => (setVar s nm (IntKind.i32.wrap i), none)) body (C.var nm _ (I32.wrap i)) hb) (C.for_ nm body hb k (i + 1)))
theorem Closed.while_ (C : Closed P) (c : Node) (body : JF) (hb : P body) : ∀ k, P (fun E => whileJ E c (body E) k)
  | 0 => C.bind stepJ (fun E => ifJ E c (fun s => (s, some 11)) noJ) C.step (C.test c (fun _ s => (s, some 11)) (fun _ => noJ) C.bound C.no)
  | k + 1 => C.bind stepJ (fun E => ifJ E c (fun s => bindJ (body E s) (whileJ E c (body E) k)) noJ) C.step
      (C.test c (fun E s => bindJ (body E s) (whileJ E c (body E) k)) (fun _ => noJ) (C.bind body (fun E => whileJ E c (body E) k) hb (C.while_ c body hb k)) C.no)
theorem Closed.op (C : Closed P) (k num : Int) (nm : ByteArray) (kids : List Node) (fs : List JF) (h : ∀ f ∈ fs, P f) : P (fun E => nodeJ E k num nm kids (fs.map (· E))) := by
  have hg : ∀ i, P (fun E => (fs.map (· E)).getD i noJ) := by
    intro i
    cases e : fs[i]? with
    | none =>
      have : (fun E : JE => (fs.map (· E)).getD i noJ) = fun _ s => (s, none) := by
        funext E s
        rw [List.getD_eq_getElem?_getD, List.getElem?_map, e]
        rfl
      rw [this]
      exact C.no
    | some f =>
      have : (fun E : JE => (fs.map (· E)).getD i noJ) = f := by
        funext E s
        rw [List.getD_eq_getElem?_getD, List.getElem?_map, e]
        rfl
      rw [this]
      exact h f (List.mem_of_getElem? e)
  by_cases h47 : k = 47
  · have : (fun E : JE => nodeJ E k num nm kids (fs.map (· E))) = fun E => seqJ (fs.map (· E)) := by funext E s; simp [nodeJ, h47]
    rw [this]
    exact C.seq fs h
  · have e0 : ∀ f : JF, (∀ E, stmtJ E k num nm kids (fs.map (· E)) = f E) → P (fun E s => bindJ (stepJ E s) (f E)) → P (fun E => nodeJ E k num nm kids (fs.map (· E))) := by
      intro f hf hp
      have : (fun E : JE => nodeJ E k num nm kids (fs.map (· E))) = fun E s => bindJ (stepJ E s) (f E) := by funext E s; simp [nodeJ, h47, hf E]
      rw [this]
      exact hp
    by_cases e40 : k = 40
    · exact e0 (fun E => storeJ E (kid kids 0) true (fun s => (s, evJ E s (kid kids 1)))) (fun E => by funext s; simp only [stmtJ, e40, if_true]) (C.assign _ _)
    by_cases e41 : k = 41
    · exact e0 (fun E => ifJ E (kid kids 0) ((fs.map (· E)).getD 1 noJ) ((fs.map (· E)).getD 2 noJ)) (fun E => by funext s; simp [stmtJ, e41]) (C.bind stepJ _ C.step (C.test _ (fun E => (fs.map (· E)).getD 1 noJ) (fun E => (fs.map (· E)).getD 2 noJ) (hg 1) (hg 2)))
    by_cases e42 : k = 42
    · exact e0 (fun E => forJ E nm ((fs.map (· E)).getD 0 noJ) num.toNat 0) (fun E => by funext s; simp [stmtJ, e42]) (C.bind stepJ _ C.step (C.for_ nm (fun E => (fs.map (· E)).getD 0 noJ) (hg 0) _ _))
    by_cases e43 : k = 43
    · exact e0 (fun E => whileJ E (kid kids 0) ((fs.map (· E)).getD 1 noJ) num.toNat) (fun E => by funext s; simp [stmtJ, e43]) (C.bind stepJ _ C.step (C.while_ _ (fun E => (fs.map (· E)).getD 1 noJ) (hg 1) _))
    by_cases e44 : k = 44
    · exact e0 (fun E => storeJ E (kid kids 0) false (recvJ E)) (fun E => by funext s; simp [stmtJ, e44]) (C.inp _)
    by_cases e45 : k = 45
    · exact e0 (fun E => outJ E (kid kids 0) num) (fun E => by funext s; simp [stmtJ, e45]) (C.out _ _)
    by_cases e46 : k = 46
    · exact e0 (fun E => (fs.map (· E)).getD 0 noJ) (fun E => by funext s; simp [stmtJ, e46]) (C.bind stepJ _ C.step (hg 0))
    · exact e0 (fun _ s => (s, none)) (fun E => by funext s; simp [stmtJ, e40, e41, e42, e43, e44, e45, e46]) (C.bind stepJ _ C.step C.no)
theorem Closed.exec (C : Closed P) : ∀ n : Node, P (fun E => execN E n) := by
  intro n
  induction n using Node.rec (motive_2 := fun l => ∀ m ∈ l, P (fun E => execN E m)) with
  | mk k num s kids ih =>
    have : (fun E : JE => execN E (.mk k num s kids)) = fun E => nodeJ E k num s kids ((kids.map fun n E => execN E n).map (· E)) := by
      funext E
      rw [execN, execL_map, List.map_map]
      rfl
    rw [this]
    refine C.op k num s kids _ ?_
    intro f hf
    obtain ⟨m, hm, rfl⟩ := List.mem_map.1 hf
    exact ih m hm
  | nil => rename_i m h; cases h
  | cons n r h1 h2 =>
    rename_i m h
    rcases List.mem_cons.1 h with rfl | h
    · exact h1
    · exact h2 m h
end
/-! ### what every execution keeps -/
/-- A state whose values are words, whose arrays have these lengths, and that has not read or sent more than it made steps. -/
structure OKJ (E : JE) (lens : List Nat) (s : JS) : Prop where
  vars : ∀ nm v, s.vars nm = some v → I32 v
  cells : ∀ l ∈ s.cells, ∀ x ∈ l, I32 x
  lens : s.cells.map List.length = lens
  read : s.read ≤ s.steps
  out : s.out.length ≤ s.steps
  steps : s.steps = 0 ∨ (s.steps : Int) ≤ E.fuel
theorem OKJ.envA {E : JE} {lens : List Nat} {s : JS} (h : OKJ E lens s) : ∀ nm l, envA E s nm = some l → ∀ x ∈ l, I32 x := by
  intro nm l e x hx
  unfold Go.Proofs.YtgmapenlgammfaaGreatDoor.envA at e
  obtain ⟨i, _, rfl⟩ := Option.map_eq_some_iff.1 e
  rw [List.getD_eq_getElem?_getD] at hx
  cases e2 : s.cells[i]? with
  | none => rw [e2] at hx; simp at hx
  | some l => rw [e2] at hx; exact h.cells l (List.mem_of_getElem? e2) x hx
theorem OKJ.ev {E : JE} {lens : List Nat} {s : JS} (h : OKJ E lens s) {n : Node} {v : Int} (e : evJ E s n = .ok v) : I32 v := evalE_range h.vars h.envA n v e
theorem OKJ.setVar {E : JE} {lens : List Nat} {s : JS} (h : OKJ E lens s) (nm : ByteArray) {v : Int} (hv : I32 v) : OKJ E lens (setVar s nm v) := by
  refine ⟨?_, h.cells, h.lens, h.read, h.out, h.steps⟩
  intro m u hu
  simp only [Go.Proofs.YtgmapenlgammfaaGreatDoor.setVar, updI] at hu
  split at hu
  · injection hu with hu; subst hu; exact hv
  · exact h.vars m u hu
theorem OKJ.setCell {E : JE} {lens : List Nat} {s : JS} (h : OKJ E lens s) (a : Nat) (i : Int) {v : Int} (hv : I32 v) : OKJ E lens (setCell s a i v) := by
  refine ⟨h.vars, ?_, ?_, h.read, h.out, h.steps⟩
  · intro l hl x hx
    simp only [Go.Proofs.YtgmapenlgammfaaGreatDoor.setCell] at hl
    rcases List.mem_or_eq_of_mem_set hl with hl | rfl
    · exact h.cells l hl x hx
    · rcases List.mem_or_eq_of_mem_set hx with hx | rfl
      · rw [List.getD_eq_getElem?_getD] at hx
        cases e2 : s.cells[a]? with
        | none => rw [e2] at hx; simp at hx
        | some l => rw [e2] at hx; exact h.cells l (List.mem_of_getElem? e2) x hx
      · exact hv
  · rw [← h.lens]
    simp only [Go.Proofs.YtgmapenlgammfaaGreatDoor.setCell]
    apply List.ext_getElem?
    intro j
    simp only [List.getElem?_map, List.getElem?_set]
    by_cases hj : a = j
    · subst hj
      cases e : s.cells[a]? with
      | none =>
        have := List.getElem?_eq_none_iff.1 e
        simp [show ¬ a < s.cells.length by omega]
      | some l =>
        obtain ⟨hlt, rfl⟩ := List.getElem?_eq_some_iff.1 e
        simp [hlt, List.getD_eq_getElem?_getD]
    · simp [hj]
theorem getD_mem {l : List Int} (h : ∀ x ∈ l, I32 x) (i : Nat) : I32 (l.getD i 0) := by
  rw [List.getD_eq_getElem?_getD]
  cases e : l[i]? with
  | none => exact .zero
  | some x => exact h x (List.mem_of_getElem? e)
/-- Executions keep it. -/
def OKP (f : JF) : Prop := ∀ E lens s, (∀ x ∈ E.inp, I32 x) → OKJ E lens s → OKJ E lens (f E s).1
theorem stepJ_ok {E : JE} {lens : List Nat} {s : JS} (h : OKJ E lens s) : OKJ E lens (stepJ E s).1 ∧ ((stepJ E s).2 = none → (stepJ E s).1.read < (stepJ E s).1.steps ∧ (stepJ E s).1.out.length < (stepJ E s).1.steps) := by
  unfold stepJ
  split
  · exact ⟨h, fun h => by cases h⟩
  · rename_i hf
    have := h.read
    have := h.out
    exact ⟨⟨h.vars, h.cells, h.lens, by simp only; omega, by simp only; omega, .inr (by simp only; omega)⟩, fun _ => ⟨by simp only; omega, by simp only; omega⟩⟩
theorem storeJ_ok {E : JE} {lens : List Nat} {place : Node} {early : Bool} {g : JS → JS × Except Int Int} {s : JS} (h : OKJ E lens s) (hg : OKJ E lens (g s).1) (hv : ∀ v, (g s).2 = .ok v → I32 v) : OKJ E lens (storeJ E place early g s).1 := by
  generalize hgs : g s = r at *
  obtain ⟨s1, x⟩ := r
  simp only at hg hv
  unfold storeJ
  rw [hgs]
  cases x with
  | error e =>
    simp only
    repeat' split
    all_goals first | exact h | exact hg
  | ok v =>
    have hv' := hv v rfl
    simp only
    repeat' split
    all_goals first | exact h | exact hg | exact hg.setVar _ hv' | exact hg.setCell _ _ hv'
theorem okClosed : Closed OKP where
  no := fun _ _ s _ h => h
  bind := fun f g hf hg E lens s hi h => by
    have h1 := hf E lens s hi h
    dsimp only
    unfold bindJ
    split
    · exact hg E lens _ hi h1
    · exact h1
  step := fun E lens s _ h => (stepJ_ok h).1
  bound := fun _ _ s _ h => h
  var := fun nm v hv E lens s _ h => h.setVar nm hv
  del := fun nm E lens s _ h => by
    refine ⟨?_, h.cells, h.lens, h.read, h.out, h.steps⟩
    intro m u hu
    simp only [delI] at hu
    split at hu
    · cases hu
    · exact h.vars m u hu
  test := fun c f g hf hg E lens s hi h => by
    dsimp only
    unfold ifJ
    split
    · exact h
    · split
      · exact hg E lens s hi h
      · exact hf E lens s hi h
  out := fun c port E lens s hi h => by
    obtain ⟨h1, h2⟩ := stepJ_ok h
    dsimp only
    cases e : (stepJ E s).2 with
    | some x => rw [bindJ_some e]; exact h1
    | none =>
      rw [bindJ_none e]
      obtain ⟨h3, h4⟩ := h2 e
      unfold outJ
      split
      · exact h1
      · exact ⟨h1.vars, h1.cells, h1.lens, h1.read, by simp; omega, h1.steps⟩
  assign := fun place c E lens s hi h => by
    obtain ⟨h1, h2⟩ := stepJ_ok h
    dsimp only
    cases e : (stepJ E s).2 with
    | some x => rw [bindJ_some e]; exact h1
    | none =>
      rw [bindJ_none e]
      exact storeJ_ok h1 h1 (fun v hv => h1.ev hv)
  inp := fun place E lens s hi h => by
    obtain ⟨h1, h2⟩ := stepJ_ok h
    dsimp only
    cases e : (stepJ E s).2 with
    | some x => rw [bindJ_some e]; exact h1
    | none =>
      rw [bindJ_none e]
      obtain ⟨h3, h4⟩ := h2 e
      generalize (stepJ E s).1 = t at *
      have hr : OKJ E lens { t with read := t.read + 1 } := ⟨h1.vars, h1.cells, h1.lens, by simp only; omega, h1.out, h1.steps⟩
      exact storeJ_ok h1 hr (fun v hv => by injection hv with hv; subst hv; exact getD_mem hi _)
theorem execN_ok {E : JE} {lens : List Nat} {s : JS} (n : Node) (hi : ∀ x ∈ E.inp, I32 x) (h : OKJ E lens s) : OKJ E lens (execN E n s).1 := okClosed.exec n E lens s hi h
end Go.Proofs.YtgmapenlgammfaaGreatDoor
