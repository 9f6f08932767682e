import Derived.Test.YtgmapenlgammfaaGreatDoorGF
import Derived.Test.YtgmapenlgammfaaGreatDoorGE
set_option linter.all false
/- InterpSplits as a plain law: a condition that selects a block costs one step. -/
namespace Go.Proofs.YtgmapenlgammfaaGreatDoor
open Go
theorem seqJ_append (a b : List (JS → JR)) : ∀ s, seqJ (a ++ b) s = bindJ (seqJ a s) (seqJ b) := by
  induction a with
  | nil => intro s; rfl
  | cons f r ih =>
    intro s
    show bindJ (f s) (seqJ (r ++ b)) = bindJ (bindJ (f s) (seqJ r)) (seqJ b)
    cases e : (f s).2 with
    | none =>
      rw [bindJ_none e, bindJ_none e]
      exact ih _
    | some x =>
      rw [bindJ_some e, bindJ_some e]
      rfl
theorem exec_block (E : JE) (num : Int) (nm : ByteArray) (l : List Node) : execN E (.mk 47 num nm l) = seqJ (l.map (execN E)) := by
  funext s
  rw [execN, execL_map]
  rfl
def blockN (l : List Node) : Node := .mk 47 0 ByteArray.empty l
/-- A condition that is constant. -/
def splitN (truth : Bool) (l : List Node) (k : Nat) : Node :=
  .mk 41 0 ByteArray.empty [.mk 1 (if truth then 7 else 0) ByteArray.empty [], blockN (if truth then l.take k else l.drop k), blockN (if truth then l.drop k else l.take k)]
/-- The body of which a beginning is selected. -/
def splitB (truth : Bool) (l : List Node) (k : Nat) : Node := blockN (splitN truth l k :: l.drop k)
theorem exec_split (E : JE) (truth : Bool) (l : List Node) (k : Nat) (s : JS) : execN E (splitB truth l k) s = bindJ (stepJ E s) (seqJ (l.map (execN E))) := by
  have h1 : execN E (splitN truth l k) s = bindJ (stepJ E s) (seqJ ((l.take k).map (execN E))) := by
    unfold splitN
    rw [execN]
    show bindJ (stepJ E s) _ = _
    congr 1
    funext s
    cases truth
    · simp only [execL, stmtJ, ifJ, kid, List.getD_cons_zero, List.getD_cons_succ, blockN, exec_block]
      rfl
    · simp only [execL, stmtJ, ifJ, kid, List.getD_cons_zero, List.getD_cons_succ, blockN, exec_block]
      rfl
  unfold splitB blockN
  rw [exec_block]
  show bindJ (execN E (splitN truth l k) s) (seqJ ((l.drop k).map (execN E))) = _
  rw [h1]
  cases e : (stepJ E s).2 with
  | some x => rw [bindJ_some e, bindJ_some e]; rfl
  | none =>
    rw [bindJ_none e, bindJ_none e, ← seqJ_append, ← List.map_append, List.take_append_drop]
def setBody (p : Prg) (t : Nat) (b : Node) : Prg := { p with tasks := p.tasks.set t { p.tasks.getD t task0 with body := b } }
theorem set_task (p : Prg) {t : Nat} (b : Node) (h : t < p.tasks.length) : (setBody p t b).tasks.getD t task0 = { p.tasks.getD t task0 with body := b } := by
  unfold setBody
  simp [List.getD_eq_getElem?_getD, h]
theorem set_fits (p : Prg) (m : Mem) {t : Nat} (b : Node) (h : fitsB p m = true) (hv : okB (setBody p t b) = true) : fitsB (setBody p t b) m = true := by
  unfold fitsB at h ⊢
  unfold okB at hv
  simp only [Bool.and_eq_true] at h hv ⊢
  refine ⟨⟨hv.1, h.1.2⟩, ?_⟩
  have := h.2
  unfold tasksB at this ⊢
  rw [Bool.and_eq_true, decide_eq_true_eq, allI_iff] at this ⊢
  refine ⟨by simpa [setBody] using this.1, ?_⟩
  intro i hi
  have hi' : i < p.tasks.length := by simpa [setBody] using hi
  have := this.2 i hi'
  have e : ((setBody p t b).tasks.getD i task0).arrays = (p.tasks.getD i task0).arrays := by
    unfold setBody
    simp only [List.getD_eq_getElem?_getD, List.getElem?_set]
    split
    · rename_i e
      subst e
      rw [if_pos hi']
      rfl
    · rfl
  rw [e]
  exact this
theorem Runs.set {p : Prg} {t : Int} {m : Mem} (h : Runs p t m) (b : Node) (hv : okB (setBody p t.toNat b) = true) : Runs (setBody p t.toNat b) t m :=
  ⟨hv, h.lo, by have := h.hi; simpa [setBody] using this, set_fits p m b h.fits hv⟩
/-- The law. -/
theorem Runs.split {p : Prg} {t : Int} {m : Mem} (h : Runs p t m) (inp : List Int) (fuel : Int) (h0 : 0 ≤ fuel) (truth : Bool) (k : Nat) (num : Int) (nm : ByteArray) (l : List Node) (hb : (tsk p t).body = .mk 47 num nm l)
    (hv : okB (setBody p t.toNat (splitB truth l k)) = true) :
    jobAll (setBody p t.toNat (splitB truth l k)) t m inp (fuel + 1) = { jobAll p t m inp fuel with steps := (jobAll p t m inp fuel).steps + 1 } := by
  have hq := h.set _ hv
  have ht : t.toNat < p.tasks.length := by have := h.lo; have := h.hi; omega
  rw [hq.run, h.run]
  have e1 : tsk (setBody p t.toNat (splitB truth l k)) t = { tsk p t with body := splitB truth l k } := set_task p _ ht
  have e2 : bodyRun (setBody p t.toNat (splitB truth l k)) t m inp (fuel + 1) = (upS (bodyRun p t m inp fuel).1, (bodyRun p t m inp fuel).2) := by
    unfold bodyRun
    rw [e1]
    have eE : jobE { tsk p t with body := splitB truth l k } (setBody p t.toNat (splitB truth l k)) inp (fuel + 1) = withFuel (jobE (tsk p t) p inp fuel) (fuel + 1) := rfl
    rw [eE]
    show execN _ (splitB truth l k) (job0 (tsk p t) (own m t) m.shared) = _
    rw [exec_split]
    have es : stepJ (withFuel (jobE (tsk p t) p inp fuel) (fuel + 1)) (job0 (tsk p t) (own m t) m.shared) = (upS (job0 (tsk p t) (own m t) m.shared), none) := by
      unfold stepJ
      rw [if_neg (by simp only [job0, withFuel]; omega)]
      rfl
    rw [es, bindJ_none rfl]
    have hs := shClosed.exec (tsk p t).body (jobE (tsk p t) p inp fuel) (job0 (tsk p t) (own m t) m.shared)
    rw [hb] at hs ⊢
    simp only [exec_block] at hs
    rw [exec_block]
    exact hs
  rw [e2]
  rfl
end Go.Proofs.YtgmapenlgammfaaGreatDoor

/- Slices of lists of trees; copies of rows. -/
namespace Go.Proofs.YtgmapenlgammfaaGreatDoor
open Go
attribute [local semireducible] Base HasAt
theorem base_app {w : World} {b o : Nat} {r s : List Value} (h1 : Base w b o r) (h2 : Base w b (o + r.length) s) : Base w b o (r ++ s) := by
  intro j v e
  rw [List.getElem?_append] at e
  split at e
  · exact h1 j v e
  · have := h2 (j - r.length) v e
    rwa [show o + r.length + (j - r.length) = o + j by omega] at this
theorem flat_base {w : World} {b sz : Nat} : ∀ (rows : List (List Value)) (o : Nat), (∀ (i : Nat) r, rows[i]? = some r → r.length = sz ∧ Base w b (o + i * sz) r) → Base w b o rows.flatten
  | [], o, _ => fun j v e => by simp at e
  | r :: rows, o, h => by
    rw [List.flatten_cons]
    have h0 := h 0 r rfl
    refine base_app (by simpa using h0.2) ?_
    rw [h0.1]
    refine flat_base (sz := sz) rows _ fun i q e => ?_
    have := h (i + 1) q (by simpa using e)
    refine ⟨this.1, ?_⟩
    rw [show o + sz + i * sz = o + (i + 1) * sz by rw [Nat.add_mul]; omega]
    exact this.2
theorem flat_len {sz : Nat} : ∀ {rows : List (List Value)}, (∀ r ∈ rows, r.length = sz) → rows.flatten.length = rows.length * sz
  | [], _ => by simp
  | r :: rows, h => by
    rw [List.flatten_cons, List.length_append, flat_len (rows := rows) fun q hq => h q (by simp [hq]), h r (by simp), List.length_cons, Nat.add_mul]
    omega
theorem RowsB.len {w : World} {sz : Nat} {A : Option Addr} {rows : List (List Value)} (h : RowsB w sz A rows) : ∀ r ∈ rows, r.length = sz := fun r hr => by
  obtain ⟨i, hi, rfl⟩ := List.getElem_of_mem hr
  obtain ⟨_, _, _, e, _⟩ := h.at_ i hi
  exact e
/-- What is appended: rows of the base. -/
theorem rows_src {w0 : World} {M : List HProp} {sz n c : Nat} {A : Option Addr} {rows : List (List Value)} (hR : RowsB w0 sz A rows) (h1 : ∀ r ∈ rows, ∀ u ∈ r, u.oneCell' = true) (hn : rows.length = n) : Src w0 M sz (.slice A n c) n rows.flatten := by
  subst hn
  refine ⟨flat_len hR.len, fun u hu => ?_, ?_⟩
  · obtain ⟨r, hr, hu⟩ := List.mem_flatten.1 hu
    exact h1 r hr u hu
  · rcases Nat.eq_zero_or_pos rows.length with h0 | h0
    · exact .inl ⟨h0, A, c, by rw [h0]⟩
    · obtain ⟨b, o, rfl, _, _⟩ := hR.at_ 0 h0
      refine .inr ⟨b, o, c, rfl, HasAt.base (flat_base (sz := sz) rows o fun i r e => ?_)⟩
      obtain ⟨b', o', e1, e2, e3⟩ := hR i r e
      cases e1
      exact ⟨e2, e3⟩
theorem NodeR.cells {w : World} {n : Node} {r : List Value} (h : NodeR w n r) : r.length = 4 ∧ ∀ u ∈ r, u.oneCell' = true := by
  obtain ⟨A, c, rfl, _, _⟩ := h.kids
  refine ⟨rfl, fun u hu => ?_⟩
  simp only [List.mem_cons, List.not_mem_nil, or_false] at hu
  rcases hu with rfl | rfl | rfl | rfl <;> rfl
theorem TaskR.cells {w : World} {t : Task} {r : List Value} (h : TaskR w t r) : r.length = 8 ∧ ∀ u ∈ r, u.oneCell' = true := by
  obtain ⟨A1, c1, A2, c2, bs, rfl, _, _, _, _, hb⟩ := h.ex
  obtain ⟨h1, h2⟩ := hb.cells
  refine ⟨by simp [h1], fun u hu => ?_⟩
  simp only [List.mem_append, List.mem_cons, List.not_mem_nil, or_false] at hu
  rcases hu with (rfl | rfl | rfl | rfl) | hu
  · rfl
  · rfl
  · rfl
  · rfl
  · exact h2 u hu
theorem NodesR.take {w : World} {A : Option Addr} {l : List Node} (h : NodesR w A l) (k : Nat) : NodesR w A (l.take k) := by
  obtain ⟨rows, h1, h2, h3⟩ := h.ex
  refine ⟨rows.take k, by simp [h1], fun i r e => ?_, fun i m r e1 e2 => ?_⟩
  · rw [List.getElem?_take] at e
    split at e
    · exact h2 i r e
    · cases e
  · rw [List.getElem?_take] at e1 e2
    split at e1
    · rw [if_pos (by assumption)] at e2
      exact h3 i m r e1 e2
    · cases e1
theorem RowsB.drop {w : World} {sz k c : Nat} {A : Option Addr} {rows : List (List Value)} (h : RowsB w sz A rows) (hc : rows.length ≤ c) : RowsB w sz (if c = k then A else A.map fun a => a.add (k * sz)) (rows.drop k) := by
  intro i r e
  rw [List.getElem?_drop] at e
  obtain ⟨b, o, rfl, e2, e3⟩ := h _ r e
  have hlt : k + i < rows.length := (List.getElem?_eq_some_iff.1 e).1
  rw [if_neg (by omega)]
  refine ⟨b, o + k * sz, ?_, e2, ?_⟩
  · simp only [Option.map_some, Addr.add]
    split
    · rename_i hz; rw [hz]; rfl
    · rfl
  · rw [show o + k * sz + i * sz = o + (k + i) * sz by rw [Nat.add_mul]; omega]
    exact e3
theorem NodesR.drop {w : World} {A : Option Addr} {l : List Node} (h : NodesR w A l) (k : Nat) {c : Nat} (hc : l.length ≤ c) : NodesR w (if c = k then A else A.map fun a => a.add (k * 4)) (l.drop k) := by
  obtain ⟨rows, h1, h2, h3⟩ := h.ex
  refine ⟨rows.drop k, by simp [h1], h2.drop (by omega), fun i m r e1 e2 => ?_⟩
  rw [List.getElem?_drop] at e1 e2
  exact h3 _ m r e1 e2
theorem NodesR.node {w : World} {A : Option Addr} {l : List Node} (h : NodesR w A l) {n c : Nat} (hn : l.length = n) (hc : n ≤ c) (kind num : Int) (s : ByteArray) : NodeR w (.mk kind num s l) [.int .u8 kind, .int .i64 num, .string s, .slice A n c] := by
  subst hn
  obtain ⟨rows, h1, h2, h3⟩ := h.ex
  exact NodeR.mk h1 hc h2 h3
/-- A part of a flat list of rows is written. -/
theorem flat_put {sz a : Nat} {vs r : List Value} (hv : a + vs.length = sz) : ∀ {rows : List (List Value)} {i : Nat}, (∀ q ∈ rows, q.length = sz) → rows[i]? = some r → setSeg rows.flatten vs (i * sz + a) = (rows.set i (r.take a ++ vs)).flatten
  | [], i, _, e => by simp at e
  | q :: rows, 0, h, e => by
    simp only [List.getElem?_cons_zero, Option.some.injEq] at e
    subst e
    have hq := h q (by simp)
    simp only [setSeg, List.flatten_cons, List.set_cons_zero, Nat.zero_mul, Nat.zero_add]
    rw [List.take_append_of_le_length (by omega), List.drop_append, List.drop_of_length_le (by omega), show a + vs.length - q.length = 0 by omega]
    simp
  | q :: rows, i + 1, h, e => by
    have hq := h q (by simp)
    have ih := flat_put hv (rows := rows) (i := i) (fun x hx => h x (by simp [hx])) (by simpa using e)
    simp only [List.flatten_cons, List.set_cons_succ]
    rw [← ih]
    simp only [setSeg]
    rw [show (i + 1) * sz + a = q.length + (i * sz + a) by rw [hq, Nat.add_mul]; omega, List.take_length_add_append, show q.length + (i * sz + a) + vs.length = q.length + (i * sz + a + vs.length) by omega, List.drop_length_add_append]
    simp
end Go.Proofs.YtgmapenlgammfaaGreatDoor

/- The other program of InterpSplits as it lies in memory. -/
namespace Go.Proofs.YtgmapenlgammfaaGreatDoor
open Go
theorem nodeR_three {w : World} {k n : Int} {s : ByteArray} {b : Nat} {x y z : Node} {r q u : List Value} (hl : r.length = 4) (hl2 : q.length = 4) (hl3 : u.length = 4) (hx : NodeR w x r) (hy : NodeR w y q) (hz : NodeR w z u) (hb : Base w b 0 (r ++ q ++ u)) : NodeR w (.mk k n s [x, y, z]) (nV k n s b 3) :=
  NodeR.mk (rows := [r, q, u]) rfl (Nat.le_refl _) (rowsB_flat (by simp [hl, hl2, hl3]) (by simpa using hb)) (fun i m z h1 h2 => by
    rcases i with _ | _ | _ | i
    · simp at h1 h2; subst h1 h2; exact hx
    · simp at h1 h2; subst h1 h2; exact hy
    · simp at h1 h2; subst h1 h2; exact hz
    · simp at h1)
theorem nodeR_num {w : World} (n : Int) : NodeR w (.mk 1 n sE []) [.int .u8 1, .int .i64 n, .string sE, .slice none 0 0] := NodeR.mk (rows := []) rfl (Nat.le_refl _) (fun i r h => by simp at h) (fun i m r h => by simp at h)
theorem split_node {w : World} {b : Nat} {truth : Bool} {l : List Node} {k : Nat} {tv : Int} (htv : (if truth = true then (7 : Int) else 0) = tv) {ra rb : List Value}
    (ha : NodeR w (blockN (if truth then l.take k else l.drop k)) ra) (hb : NodeR w (blockN (if truth then l.drop k else l.take k)) rb) (hB : Base w b 0 ([.int .u8 1, .int .i64 tv, .string sE, .slice none 0 0] ++ ra ++ rb)) :
    NodeR w (splitN truth l k) (nV 41 0 sE b 3) := by
  subst htv
  exact nodeR_three rfl ha.cells.1 hb.cells.1 (nodeR_num _) ha hb hB
theorem split_body {w : World} {b g c : Nat} {truth : Bool} {l : List Node} {k : Nat} {rows7 : List (List Value)} (hl7 : rows7.length = l.length) (hk : k ≤ l.length) (h4 : ∀ r ∈ rows7, r.length = 4) (hR7 : ∀ (i : Nat) m r, l[i]? = some m → rows7[i]? = some r → NodeR w m r)
    (hn : NodeR w (splitN truth l k) (nV 41 0 sE b 3)) (hc : 1 + (l.length - k) ≤ c) (hB : Base w g 0 (nV 41 0 sE b 3 ++ (rows7.drop k).flatten)) :
    NodeR w (splitB truth l k) [.int .u8 47, .int .i64 0, .string sE, .slice (some ⟨g, 0, none⟩) (1 + (l.length - k)) c] := by
  refine NodesR.node (l := splitN truth l k :: l.drop k) ⟨nV 41 0 sE b 3 :: rows7.drop k, by simp [hl7], rowsB_flat (fun r hr => ?_) (by simpa using hB), fun i m r e1 e2 => ?_⟩ (by simp; omega) hc 47 0 sE
  · rcases List.mem_cons.1 hr with rfl | hr
    · rfl
    · exact h4 r (List.mem_of_mem_drop hr)
  · rcases i with _ | i
    · simp at e1 e2; subst e1 e2; exact hn
    · simp only [List.getElem?_cons_succ, List.getElem?_drop] at e1 e2
      exact hR7 _ m r e1 e2
theorem split_prog {w : World} {p : Prg} {tn bq c1 c8 : Nat} {A1 : Option Addr} {B : Node} {rowsT : List (List Value)} {bs : List Value} (htn : tn < p.tasks.length) (hc1 : p.shared.length ≤ c1) (hc8 : p.tasks.length ≤ c8) (hsh : RowsB w 2 A1 (p.shared.map arrRow))
    (hrl : rowsT.length = p.tasks.length) (hrR : ∀ (i : Nat) m r, p.tasks[i]? = some m → rowsT[i]? = some r → TaskR w m r) (hB : NodeR w B bs) (hb : Base w bq 0 (setSeg rowsT.flatten bs (tn * 8 + 4))) :
    PrgR w (setBody p tn B) [.slice A1 p.shared.length c1, .slice (some ⟨bq, 0, none⟩) p.tasks.length c8] := by
  have h8 : ∀ r ∈ rowsT, r.length = 8 := fun r hr => by
    obtain ⟨i, hi, rfl⟩ := List.getElem_of_mem hr
    exact (hrR i (p.tasks[i]'(by omega)) _ (by simp [show i < p.tasks.length by omega]) (by simp [hi])).cells.1
  have hrt : rowsT[tn]? = some (rowsT[tn]'(by omega)) := by simp [show tn < rowsT.length by omega]
  have h4 := hB.cells.1
  rw [flat_put (sz := 8) (a := 4) (by omega) h8 hrt] at hb
  have hT := hrR tn p.tasks[tn] _ (by simp [htn]) hrt
  have hT' : TaskR w { p.tasks.getD tn task0 with body := B } ((rowsT[tn]'(by omega)).take 4 ++ bs) := by
    obtain ⟨a1, d1, a2, d2, bs', e, g1, g2, g3, g4, _⟩ := hT.ex
    rw [e]
    have : p.tasks.getD tn task0 = p.tasks[tn] := by simp [List.getD_eq_getElem?_getD, htn]
    rw [this]
    exact ⟨a1, d1, a2, d2, bs, rfl, g1, g2, g3, g4, hB⟩
  refine ⟨A1, c1, some ⟨bq, 0, none⟩, c8, by simp [setBody], hc1, by simpa [setBody] using hc8, hsh, rowsT.set tn ((rowsT[tn]'(by omega)).take 4 ++ bs), by simp [setBody, hrl], rowsB_flat (fun r hr => ?_) hb, fun i m r e1 e2 => ?_⟩
  · rcases List.mem_or_eq_of_mem_set hr with hr | rfl
    · exact h8 r hr
    · exact hT'.cells.1
  · simp only [setBody] at e1
    rw [List.getElem?_set] at e1 e2
    split at e1
    · rename_i e
      subst e
      rw [if_pos rfl, if_pos (by omega)] at e2
      injection e1 with e1
      injection e2 with e2
      subst e1 e2
      exact hT'
    · rename_i e
      rw [if_neg e] at e2
      exact hrR i m r e1 e2
theorem sizeAll_append (a b : List Node) : Node.sizeAll (a ++ b) = Node.sizeAll a + Node.sizeAll b := by
  induction a with
  | nil => simp [Node.sizeAll]
  | cons x r ih => simp only [List.cons_append, Node.sizeAll, ih]; omega
theorem split_size (truth : Bool) (l : List Node) (k : Nat) : (splitB truth l k).size ≤ 2 * Node.sizeAll l + 5 := by
  have h := sizeAll_append (l.take k) (l.drop k)
  rw [List.take_append_drop] at h
  cases truth <;> simp [splitB, splitN, blockN, Node.size, Node.sizeAll] <;> omega
theorem split_fit {p : Prg} (hf : Fit p) {tn : Nat} {B : Node} (hB : B.size < 4611686018427387904) : Fit (setBody p tn B) := by
  refine ⟨hf.shared, by simpa [setBody] using hf.tasks, fun t ht => ?_⟩
  rcases List.mem_or_eq_of_mem_set ht with ht | rfl
  · exact hf.each t ht
  · rcases Nat.lt_or_ge tn p.tasks.length with h | h
    · have := hf.each _ (getD_mem0 (d := task0) h)
      exact ⟨this.1, this.2.1, hB⟩
    · rw [List.getD_eq_getElem?_getD, List.getElem?_eq_none h]
      refine ⟨?_, ?_, hB⟩ <;> simp [task0]
end Go.Proofs.YtgmapenlgammfaaGreatDoor

/- Regions that draw their order: three that may come up. -/
namespace Go.Proofs.YtgmapenlgammfaaGreatDoor
open Go
section
variable {P : Program} {w0 : World} {n : Nat} {ops : Array Oper} {Q : Exit → Act → World → Prop} {Mro : List HProp} {k : Nat} {D : List Nat} {L : Env} {M : List HProp}
theorem kLoud {K : Value → List HProp → Prop} {KP : List PanicEntry → List HProp → Prop} {d : Nat} {op : Op} {T : TypeId} {p : String} {af : Array Edge} {gd : Option (Nat × Bool)} (i : Nat) (ho : ops[i]? = some ⟨some d, op, T, p, af, gd⟩) (hop : OpS P w0 L M ⟨some d, op, T, p, af, gd⟩ K KP) (hkp : ∀ c M', KP c M' → False) (hkk : ∀ v M', K v M' → Gives M' Mro ∧ AJ P w0 n ops Q Mro k (i :: D) ((d, v) :: L) M')
    (hw : wantedL ops L ⟨some d, op, T, p, af, gd⟩ = some true := by exact rfl) (hik : Nat.blt i k = true := by exact rfl) (hd : Nat.blt d n = true := by exact rfl) (hf : L.get d = none := by exact rfl) (hns : notSel ⟨some d, op, T, p, af, gd⟩ = true := by exact rfl)
    (hlk : ((Oper.looksAt ops ⟨some d, op, T, p, af, gd⟩).all fun t => (L.get t).isSome) = true := by exact rfl) : Loud P w0 n ops Q Mro k D L M i := by
  refine ⟨_, K, KP, ho, hw, fun e he => (by injection he with he; subst he; simpa [Nat.blt_eq] using hd), fun e he => (by injection he with he; subst he; exact hf), hns, ?_, by simpa [Nat.blt_eq] using hik, hop, hkk, fun c M' h => (hkp c M' h).elim⟩
  intro t ht
  exact Option.isSome_iff_exists.1 (List.all_eq_true.1 hlk t ht)
theorem AJ.one {i : Nat} (hi : Loud P w0 n ops Q Mro k D L M i) (hv : vready ops D = [i] := by kernel_rfl) (hor : ordOk ops = true := by kernel_rfl) (hn : namesOk ops k = true := by kernel_rfl) (hk : Nat.ble k ops.size = true := by exact rfl) (hne : ((List.range ops.size).all (D.contains ·)) = false := by kernel_rfl) : AJ P w0 n ops Q Mro k D L M := by
  refine AJ.louds hor hn hk hne fun j hj => ?_
  rw [hv] at hj
  obtain rfl : j = i := by simpa using hj
  exact hi
theorem AJ.two {i j : Nat} (hi : Loud P w0 n ops Q Mro k D L M i) (hj : Loud P w0 n ops Q Mro k D L M j) (hv : vready ops D = [i, j] := by kernel_rfl) (hor : ordOk ops = true := by kernel_rfl) (hn : namesOk ops k = true := by kernel_rfl) (hk : Nat.ble k ops.size = true := by exact rfl) (hne : ((List.range ops.size).all (D.contains ·)) = false := by kernel_rfl) : AJ P w0 n ops Q Mro k D L M := by
  refine AJ.louds hor hn hk hne fun x hx => ?_
  rw [hv] at hx
  simp only [List.mem_cons, List.not_mem_nil, or_false] at hx
  rcases hx with rfl | rfl
  · exact hi
  · exact hj
theorem AJ.three {i j l : Nat} (hi : Loud P w0 n ops Q Mro k D L M i) (hj : Loud P w0 n ops Q Mro k D L M j) (hl : Loud P w0 n ops Q Mro k D L M l) (hv : vready ops D = [i, j, l] := by kernel_rfl) (hor : ordOk ops = true := by kernel_rfl) (hn : namesOk ops k = true := by kernel_rfl) (hk : Nat.ble k ops.size = true := by exact rfl) (hne : ((List.range ops.size).all (D.contains ·)) = false := by kernel_rfl) : AJ P w0 n ops Q Mro k D L M := by
  refine AJ.louds hor hn hk hne fun x hx => ?_
  rw [hv] at hx
  simp only [List.mem_cons, List.not_mem_nil, or_false] at hx
  rcases hx with rfl | rfl | rfl
  · exact hi
  · exact hj
  · exact hl
end
end Go.Proofs.YtgmapenlgammfaaGreatDoor

/- The law's own function Clone: a memory in new memory. -/
namespace Go.Proofs.YtgmapenlgammfaaGreatDoor
open Go
section
variable {P : Program} {w0 : World} {L : Env} {M : List HProp}
theorem AJ.gives' {P : Program} {w0 : World} {n : Nat} {ops : Array Oper} {Q : Exit → Act → World → Prop} {Mro : List HProp} {k : Nat} {D : List Nat} {L : Env} {M M' : List HProp} (g : Gives M M') (hm : Gives M' Mro) (kk : AJ P w0 n ops Q Mro k D L M') : AJ P w0 n ops Q Mro k D L M := by
  unfold Gives at g
  exact fun _ fuel Z listed a w h r hp m s hc => kk hm fuel Z listed a w h r hp (g h m) s hc
end
theorem Clone_spec (w0 : World) (m : Mem) (mcs : List Value) (hM : MemR w0 mcs m) {inp : List Int} (hs : Small m inp) :
    Spec Tryz.prog w0 15 #[.agg mcs.toArray] [] (Ret (fun v N => ∃ vA vS vs uss us, v = .agg #[vA, vS] ∧ Lens vs uss m.arrays ∧ us.length = m.shared.length ∧ N = cubA vA vs uss m.arrays ++ matM vS us m.shared) noP) := by
  obtain ⟨u, v, rfl, hu, hv⟩ := hM
  obtain ⟨A3, c3, vs3, rfl, hc3, hl3, hr3, hin3⟩ := hu
  obtain ⟨A4, c4, vs4, rfl, hc4, hl4, hr4, hin4⟩ := hv
  have hsl := hs.sh.1
  have hal := hs.len
  refine Spec.enter (args := [_]) Tryz.func15 rfl rfl rfl (fun F => ?_)
  refine kAutoB ?_
  (apply RL.boxR; exact kEv; exact rfl; intro b1)
  (apply RL.alloc; exact rfl; exact rfl; intro b2)
  refine kAutoB ?_
  (apply RL.alloc; exact rfl; exact rfl; intro b3)
  refine kAutoB ?_
  refine CJ.gives (row_nil 30 1) ?_
  refine CJ.loop (σ := Nat × Option Addr × Nat × List Value) (fun s => s.1 ≤ m.shared.length ∧ s.2.2.2.length = s.1)
    (fun s => [(14, .int .i64 (s.1 : Int)), (13, .int .i64 m.shared.length), (12, .slice A4 m.shared.length c4), (3, .pointer (some ⟨b3, 0, none⟩)), (2, .pointer (some ⟨b2, 0, none⟩)), (1, .pointer (some ⟨b1, 0, none⟩))])
    (fun s => cel b3 29 [.slice none 0 0, .slice s.2.1 s.1 s.2.2.1] :: row 30 1 (.slice s.2.1 s.1 s.2.2.1) s.1 s.2.2.2 :: cel b2 29 [.slice none 0 0, .slice none 0 0] :: rcel b1 29 [.slice A3 m.arrays.length c3, .slice A4 m.shared.length c4] :: (innerM s.2.2.2 (m.shared.take s.1) ++ F))
    (fun s => m.shared.length - s.1) (0, none, 0, []) ⟨Nat.zero_le _, rfl⟩ (by exact kEsub) (by exact kGives) ?_
  rintro ⟨i, Ao, co, us⟩ ⟨hi, hus⟩
  simp only at hi hus
  refine kAutoB ?_
  cases hlt : decide ((i : Int) < (m.shared.length : Int))
  case true =>
    have hlt' : i < m.shared.length := by have := of_decide_eq_true hlt; omega
    obtain ⟨b, o, hA4, hrl', hb⟩ := hr4.at_ i (by simpa using (by omega : i < vs4.length))
    subst hA4
    simp only [List.getElem_map] at hb hrl'
    obtain ⟨A1, c1, hv1, hc1, hr1⟩ := hin4 i m.shared[i] (vs4[i]'(by omega)) (by simp [hlt']) (by simp [show i < vs4.length by omega])
    rw [hv1] at hb
    have hli := hs.sh.2 _ (List.getElem_mem hlt')
    refine kAutoB ?_
    apply RL.pur; (apply OpP.indexAddr; exact kEv; exact kEv; exact hlt'); exact rfl
    apply RL.pur; (apply OpP.load; exact kEv; exact HasAt.base hb); exact rfl
    refine kAutoB ?_
    (refine CJ.draws mixed 7 [cel b3 _ _] (by exact kGives) (dom_of (by kernel_rfl)) ?_)
    ((first | refine kAjB 0 ?_ | refine kAjS 0 ?_); (first | refine kAjB 1 ?_ | refine kAjS 1 ?_))
    ((first | refine kAjB 3 ?_ | refine kAjS 3 ?_))
    (refine AJ.loud1 (i := 2) (by kernel_rfl) (by kernel_rfl) rfl (by kernel_rfl) (by kernel_rfl) rfl rfl rfl rfl rfl rfl (OpS.buildSlice (E := 21) [] rfl (by exact kEvl) (fun w => by kernel_rfl)) ?_ ?_)
    rotate_left
    · rintro _ _ h; exact h.elim
    rintro _ _ ⟨b20, rfl, rfl⟩
    refine ⟨by exact kGives, ?_⟩
    refine AJ.gives' (row_of_cel (n := 0) (sz := 1) rfl (by simp) (by decide) _) (by exact kGives) ?_
    (refine AJ.loud1 (i := 4) (by kernel_rfl) (by kernel_rfl) rfl (by kernel_rfl) (by kernel_rfl) rfl rfl rfl rfl rfl rfl (OpS.append (by exact kEv) (by exact kEv) (Takes.here _ _) (fun h _ => base_src (by simp) (oneInt m.shared[i]) hr1) (by simp only [maxLen]; omega) (by omega)) ?_ ?_)
    rotate_left
    · rintro _ _ h; exact h.elim
    rintro _ _ ⟨⟨A2, c2, rfl⟩, rfl⟩
    refine ⟨by exact kGives, ?_⟩
    (refine AJ.loud1 (i := 5) (by kernel_rfl) (by kernel_rfl) rfl (by kernel_rfl) (by kernel_rfl) rfl rfl rfl rfl rfl rfl (OpS.buildSlice (E := 30) [.slice A2 (0 + m.shared[i].length) c2] rfl (by exact kEvl) (fun w => by kernel_rfl)) ?_ ?_)
    rotate_left
    · rintro _ _ h; exact h.elim
    rintro _ _ ⟨b23, rfl, rfl⟩
    refine ⟨by exact kGives, ?_⟩
    (refine AJ.loud1 (i := 6) (by kernel_rfl) (by kernel_rfl) rfl (by kernel_rfl) (by kernel_rfl) rfl rfl rfl rfl rfl rfl (OpS.append (m := 1) (news := [.slice A2 (0 + m.shared[i].length) c2]) (by exact kEv) (by exact kEv) (Takes.there (Takes.there (Takes.there (Takes.here _ _)))) (fun h m => ⟨rfl, by simp [Value.oneCell'], .inr ⟨_, _, _, rfl, HasAt.pt (Takes.here _ _) atAll⟩⟩) (by show i + 1 ≤ _; simp only [maxLen]; omega) (by show (i + 1) * _ ≤ _; omega)) ?_ ?_)
    rotate_left
    · rintro _ _ h; exact h.elim
    rintro _ _ ⟨⟨A5, c5, rfl⟩, rfl⟩
    refine ⟨by exact kGives, ?_⟩
    (refine AJ.tail (by kernel_rfl) (by kernel_rfl) rfl (by kernel_rfl) (by kernel_rfl) (by kernel_rfl) ?_)
    rw [Nat.zero_add, List.nil_append]
    refine kAutoB ?_
    (apply RL.store; exact kEv; exact kEv; exact kTake; exact rfl; exact rfl; exact rfl)
    refine kAutoB ?_
    rw [i64_succ i (by omega)]
    refine XJ.round (i + 1, A5, c5, us ++ [.slice A2 m.shared[i].length c2]) ⟨by simp only; omega, by simp [hus]⟩ (by simp only; omega) (by exact kEsub) ?_
    simp only
    rw [List.take_succ_eq_append_getElem hlt', innerM_snoc us (m.shared.take i) _ m.shared[i] (by simp; omega)]
    exact Gives.cons (Takes.here _ _) (Gives.cons (Takes.here _ _) (Gives.drop (Gives.cons (Takes.there (Takes.here _ _)) (Gives.cons (Takes.there (Takes.here _ _)) Gives.move))))
  have hge : i = m.shared.length := by have := of_decide_eq_false hlt; omega
  subst hge
  rw [List.take_length]
  refine kAutoB ?_
  generalize hG : matM (.slice Ao m.shared.length co) us m.shared ++ F = G
  refine CJ.gives (M' := cel b3 29 [.slice none 0 0, .slice Ao m.shared.length co] :: row 27 1 (.slice none 0 0) 0 [] :: cel b2 29 [.slice none 0 0, .slice none 0 0] :: (cubM [] [] [] ++ G)) (by
    refine (row_nil 27 1).trans ?_
    rw [← hG]
    exact Gives.cons (Takes.there (Takes.here _ _)) (Gives.cons (Takes.here _ _) (Gives.cons (Takes.there (Takes.here _ _)) (Gives.cons (Takes.here _ _) (Gives.drop (Gives.refl _)))))) ?_
  refine CJ.loop (σ := Nat × Option Addr × Nat × List Value × List (List Value)) (fun s => s.1 ≤ m.arrays.length ∧ Lens s.2.2.2.1 s.2.2.2.2 (m.arrays.take s.1))
    (fun s => [(30, .int .i64 (s.1 : Int)), (29, .int .i64 m.arrays.length), (28, .slice A3 m.arrays.length c3), (3, .pointer (some ⟨b3, 0, none⟩)), (2, .pointer (some ⟨b2, 0, none⟩))])
    (fun s => cel b3 29 [.slice s.2.1 s.1 s.2.2.1, .slice Ao m.shared.length co] :: row 27 1 (.slice s.2.1 s.1 s.2.2.1) s.1 s.2.2.2.1 :: cel b2 29 [.slice none 0 0, .slice none 0 0] :: (cubM s.2.2.2.1 s.2.2.2.2 (m.arrays.take s.1) ++ G))
    (fun s => m.arrays.length - s.1) (0, none, 0, [], []) ⟨Nat.zero_le _, Lens.nil⟩ (by exact kEsub) (by exact kGives) ?_
  rintro ⟨i, Aa, ca, vs, uss⟩ ⟨hi, hL⟩
  simp only at hi hL
  refine kAutoB ?_
  cases hlt : decide ((i : Int) < (m.arrays.length : Int))
  case false =>
    have hge : i = m.arrays.length := by have := of_decide_eq_false hlt; omega
    subst hge
    rw [List.take_length] at hL
    refine kAutoB ?_
    (apply RL.storeA; exact kEv; exact kEv; exact kTake; exact rfl; exact rfl; exact rfl)
    refine kAutoB ?_
    refine XJ.retC rfl rfl (HasAt.pt (Takes.here _ _) atAll) rfl (cubA (.slice Aa m.arrays.length ca) vs uss m.arrays ++ matM (.slice Ao m.shared.length co) us m.shared) ?_ ⟨_, _, vs, uss, us, rfl, hL, hus, rfl⟩
    simp only
    rw [List.take_length, ← hG]
    unfold cubA
    rw [List.append_assoc]
    exact Gives.drop (Gives.drop (Gives.cons (Takes.here _ _) (Gives.refl _)))
  have hlt' : i < m.arrays.length := by have := of_decide_eq_true hlt; omega
  obtain ⟨b, o, hA3, hrl', hb⟩ := hr3.at_ i (by simpa using (by omega : i < vs3.length))
  subst hA3
  simp only [List.getElem_map] at hb hrl'
  obtain ⟨A6, c6, vs6, hv6, hc6, hl6, hr6, hin6⟩ := hin3 i m.arrays[i] (vs3[i]'(by omega)) (by simp [hlt']) (by simp [show i < vs3.length by omega])
  rw [hv6] at hb
  obtain ⟨hq1, hq2⟩ := hs.each _ (List.getElem_mem hlt')
  have hzt : m.arrays.take (i + 1) = m.arrays.take i ++ [m.arrays[i]] := List.take_succ_eq_append_getElem hlt'
  generalize hqq : m.arrays[i] = q at *
  refine kAutoB ?_
  apply RL.pur; (apply OpP.indexAddr; exact kEv; exact kEv; exact hlt'); exact rfl
  apply RL.pur; (apply OpP.load; exact kEv; exact HasAt.base hb); exact rfl
  refine kAutoB ?_
  refine CJ.gives (row_nil 30 1) ?_
  refine CJ.loop (σ := Nat × Option Addr × Nat × List Value) (fun s => s.1 ≤ q.length ∧ s.2.2.2.length = s.1)
    (fun s => [(36, .int .i64 (s.1 : Int)), (35, .int .i64 q.length), (34, .slice A6 q.length c6), (8, .slice s.2.1 s.1 s.2.2.1), (30, .int .i64 (i : Int)), (29, .int .i64 m.arrays.length), (28, .slice (some ⟨b, o, none⟩) m.arrays.length c3), (3, .pointer (some ⟨b3, 0, none⟩)), (2, .pointer (some ⟨b2, 0, none⟩))])
    (fun s => row 30 1 (.slice s.2.1 s.1 s.2.2.1) s.1 s.2.2.2 :: cel b3 29 [.slice Aa i ca, .slice Ao m.shared.length co] :: row 27 1 (.slice Aa i ca) i vs :: cel b2 29 [.slice none 0 0, .slice none 0 0] :: (innerM s.2.2.2 (q.take s.1) ++ (cubM vs uss (m.arrays.take i) ++ G)))
    (fun s => q.length - s.1) (0, none, 0, []) ⟨Nat.zero_le _, rfl⟩ (by exact kEsub) (by exact kGives) ?_
  rintro ⟨j, Aj, cj, usj⟩ ⟨hj, husj⟩
  simp only at hj husj
  refine kAutoB ?_
  cases hjt : decide ((j : Int) < (q.length : Int))
  case true =>
    have hjt' : j < q.length := by have := of_decide_eq_true hjt; omega
    obtain ⟨b', o', hA6, hrl6, hb6⟩ := hr6.at_ j (by simpa using (by omega : j < vs6.length))
    subst hA6
    simp only [List.getElem_map] at hb6 hrl6
    obtain ⟨A7, c7, hv7, hc7, hr7⟩ := hin6 j q[j] (vs6[j]'(by omega)) (by simp [hjt']) (by simp [show j < vs6.length by omega])
    rw [hv7] at hb6
    have hlj := hq2 _ (List.getElem_mem hjt')
    refine kAutoB ?_
    apply RL.pur; (apply OpP.indexAddr; exact kEv; exact kEv; exact hjt'); exact rfl
    apply RL.pur; (apply OpP.load; exact kEv; exact HasAt.base hb6); exact rfl
    refine kAutoB ?_
    (apply RL.buildSlice; exact rfl; exact kEvl; exact rfl; (intro w; kernel_rfl); exact rfl; intro b41)
    refine RL.gives (row_of_cel (n := 0) (sz := 1) rfl (by simp) (by decide) _) ?_
    refine kAutoB ?_
    refine RL.append (by exact kEv) (by exact kEv) (Takes.here _ _) (fun h _ => base_src (by simp) (oneInt q[j]) hr7) (by simp only [maxLen]; omega) (by omega) rfl (fun A2 c2 => ?_)
    refine kAutoB ?_
    (apply RL.buildSlice; exact rfl; exact kEvl; exact rfl; (intro w; kernel_rfl); exact rfl; intro b44)
    rw [Nat.zero_add]
    rw [List.nil_append]
    refine RL.append (by exact kEv) (by exact kEv) (Takes.there (Takes.there (Takes.here _ _))) (fun h _ => ⟨rfl, (fun u hu => by simp at hu; subst hu; rfl), .inr ⟨_, _, _, rfl, HasAt.pt (Takes.here _ _) atAll⟩⟩) (m := 1) (by show j + 1 ≤ _; simp only [maxLen]; omega) (by show (j + 1) * _ ≤ _; omega) rfl (fun A8 c8 => ?_)
    refine kAutoB ?_
    rw [i64_succ j (by omega)]
    refine XJ.round (j + 1, A8, c8, usj ++ [.slice A2 q[j].length c2]) ⟨by simp only; omega, by simp [husj]⟩ (by simp only; omega) (by exact kEsub) ?_
    simp only
    rw [List.take_succ_eq_append_getElem hjt', innerM_snoc usj (q.take j) _ q[j] (by simp; omega)]
    exact Gives.cons (Takes.here _ _) (Gives.drop (Gives.cons (Takes.there (Takes.here _ _)) (Gives.cons (Takes.there (Takes.here _ _)) (Gives.cons (Takes.there (Takes.here _ _)) Gives.move))))
  have hjg : j = q.length := by have := of_decide_eq_false hjt; omega
  subst hjg
  rw [List.take_length]
  refine kAutoB ?_
  (apply RL.buildSlice; exact rfl; exact kEvl; exact rfl; (intro w; kernel_rfl); exact rfl; intro b50)
  refine RL.append (by exact kEv) (by exact kEv) (Takes.there (Takes.there (Takes.there (Takes.here _ _)))) (fun h _ => ⟨rfl, (fun u hu => by simp at hu; subst hu; rfl), .inr ⟨_, _, _, rfl, HasAt.pt (Takes.here _ _) atAll⟩⟩) (m := 1) (by show i + 1 ≤ _; simp only [maxLen]; omega) (by show (i + 1) * _ ≤ _; omega) rfl (fun A9 c9 => ?_)
  refine kAutoB ?_
  (apply RL.store; exact kEv; exact kEv; exact kTake; exact rfl; exact rfl; exact rfl)
  refine kAutoB ?_
  rw [i64_succ i (by omega)]
  refine XJ.round (i + 1, A9, c9, vs ++ [.slice Aj q.length cj], uss ++ [usj]) ⟨by simp only; omega, ?_⟩ (by simp only; omega) (by exact kEsub) ?_
  · rw [hzt]
    exact hL.snoc husj
  · simp only
    rw [hzt, cubM_snoc _ _ _ _ _ _ hL.l1 hL.l2]
    unfold matM
    exact Gives.cons (Takes.here _ _) (Gives.cons (Takes.here _ _) (Gives.drop (Gives.cons (Takes.there (Takes.here _ _)) (Gives.swapApp (A := row 30 1 (.slice Aj q.length cj) q.length usj :: innerM usj q) (B := cubM vs uss (m.arrays.take i)) (F := G)))))
end Go.Proofs.YtgmapenlgammfaaGreatDoor

/- InterpApart as a plain law: a job does not look at the arrays of other tasks. And: what is owned becomes the base of the rest of a walk. -/
namespace Go.Proofs.YtgmapenlgammfaaGreatDoor
open Go
section
attribute [local semireducible] Gives CJ RL XJ Ev
variable {P : Program} {w0 : World} {n : Nat} {L : Env} {M : List HProp} {Q : Exit → Act → World → Prop}
/-- From here on all that was owned is only read. -/
theorem CJ.toBase {c : Code} (k : ∀ w h, star M h → Go.Proofs.YtgmapenlgammfaaGreatDoor.Sat w0 w h → CJ P w n c Q L []) : CJ P w0 n c Q L M :=
  fun a w h s m t => k w h m t a w (fun _ => none) s trivial (Go.Proofs.YtgmapenlgammfaaGreatDoor.Sat.refl w)
theorem RL.toBase {ops : Array Oper} {l : List Oper} (k : ∀ w h, star M h → Go.Proofs.YtgmapenlgammfaaGreatDoor.Sat w0 w h → RL P w n ops Q l L []) : RL P w0 n ops Q l L M :=
  fun a w h s m t => k w h m t a w (fun _ => none) s trivial (Go.Proofs.YtgmapenlgammfaaGreatDoor.Sat.refl w)
theorem XJ.toBase {e : Exit} (k : ∀ w h, star M h → Go.Proofs.YtgmapenlgammfaaGreatDoor.Sat w0 w h → XJ w n e Q L []) : XJ w0 n e Q L M :=
  fun a w h s m t => k w h m t a w (fun _ => none) s trivial (Go.Proofs.YtgmapenlgammfaaGreatDoor.Sat.refl w)
theorem Sat.keep {w w' : World} {h h' : Frag} (s : Go.Proofs.YtgmapenlgammfaaGreatDoor.Sat w0 w h) (s' : Go.Proofs.YtgmapenlgammfaaGreatDoor.Sat w w' h') : Go.Proofs.YtgmapenlgammfaaGreatDoor.Sat w0 w' h := by
  refine ⟨s'.os.trans s.os, s'.tape.trans s.tape, s'.output.trans s.output, Nat.le_trans s.size s'.size, ?_, ?_⟩
  · intro i hi
    rw [s'.base i (by have := s.size; omega)]
    exact s.base i hi
  · intro i c e
    have := s.own i c e
    exact ⟨this.1, by rw [s'.base i (s.lt e)]; exact this.2⟩
theorem XJ.ret1B {w : World} {h0 : Frag} {M0 F : List HProp} {fn : Func} {R : Ending → List HProp → Prop} {N : List HProp} {t : Nat} {v : Value} (hm : star M0 h0) (hs : Go.Proofs.YtgmapenlgammfaaGreatDoor.Sat w0 w h0) (hr : fn.results = #[.tmp t]) (hv : L.get t = some v) (g : Gives M0 F) (hR : R (.returned v) []) : XJ w n .ret (endOf P w0 fn R F) L N :=
  fun a w' h s m sa => ⟨s.df, v, by rw [results_tmp hr, Act.getD_eval, Ev.tmp hv n a s], [], h0, hR, g h0 hm, hs.keep sa⟩
end
section
attribute [local semireducible] ro
theorem rcel_base {w0 w : World} {h : Frag} {M M' : List HProp} {b T : Nat} {cs : List Value} (t : Takes M [rcel b T cs] M') (m : star M h) (s : Go.Proofs.YtgmapenlgammfaaGreatDoor.Sat w0 w h) : Base w b 0 cs := by
  unfold Takes at t
  unfold Base
  exact fun j v hv => HasAt.heap (s.ro (t h m)) atAll j v hv
end
theorem Base.at {w : World} {b o : Nat} {vs : List Value} (h : Base w b o vs) (i r : Nat) {v : Value} (e : vs[i]? = some v) (hr : o + i = r) : Base w b r [v] := by subst hr; exact h.one i e
/-! ### the plain law -/
def addTo (d : Int) (q : List (List Int)) : List (List Int) := q.map fun l => l.map fun x => IntKind.i32.wrap (x + d)
/-- The first i lists are changed, but for the task's own. -/
def partO (q : List (List (List Int))) (t : Nat) (d : Int) (i : Nat) : List (List (List Int)) := q.mapIdx fun j x => if j < i ∧ j ≠ t then addTo d x else x
theorem partO_len (q : List (List (List Int))) (t : Nat) (d : Int) (i : Nat) : (partO q t d i).length = q.length := by simp [partO]
theorem partO_get (q : List (List (List Int))) (t : Nat) (d : Int) (i j : Nat) : (partO q t d i)[j]? = q[j]?.map fun x => if j < i ∧ j ≠ t then addTo d x else x := by simp [partO]
theorem partO_zero (q : List (List (List Int))) (t : Nat) (d : Int) : partO q t d 0 = q := by
  apply List.ext_getElem?
  intro j
  rw [partO_get]
  cases q[j]? <;> simp
theorem partO_own (q : List (List (List Int))) (t : Nat) (d : Int) : partO q t d (t + 1) = partO q t d t := by
  apply List.ext_getElem?
  intro j
  rw [partO_get, partO_get]
  congr 1
  funext x
  by_cases h : j = t
  · simp [h]
  · simp only [h, ne_eq, not_false_eq_true, and_true, show (j < t + 1) = (j < t) by rw [eq_iff_iff]; omega]
theorem partO_set (q : List (List (List Int))) {t i : Nat} (d : Int) (hi : i < q.length) (ht : i ≠ t) : partO q t d (i + 1) = (partO q t d i).set i (addTo d q[i]) := by
  apply List.ext_getElem?
  intro j
  rw [List.getElem?_set, partO_get, partO_get, partO_len]
  by_cases h : i = j
  · subst h
    simp [hi, ht]
  · rw [if_neg h]
    congr 1
    funext x
    simp only [show (j < i + 1) = (j < i) by rw [eq_iff_iff]; omega]
theorem partO_at (q : List (List (List Int))) {t i : Nat} (d : Int) (hi : i < q.length) : (partO q t d i)[i]? = some q[i] := by
  rw [partO_get]
  simp [hi]
def otherM (m : Mem) (t : Nat) (d : Int) : Mem := ⟨partO m.arrays t d m.arrays.length, m.shared⟩
theorem addTo_lens (d : Int) (q : List (List Int)) : (addTo d q).map List.length = q.map List.length := by simp [addTo, List.map_map, Function.comp_def]
theorem sizedB_lens {l : List Arr} {q q' : List (List Int)} (h : q'.map List.length = q.map List.length) : sizedB l q' = sizedB l q := by
  have hl : q'.length = q.length := by have := congrArg List.length h; simpa using this
  unfold sizedB
  rw [hl]
  congr 1
  unfold allI
  congr 1
  funext i
  have : (q'.getD i []).length = (q.getD i []).length := by
    have := congrArg (fun l => l[i]?) h
    simp only [List.getElem?_map] at this
    simp only [List.getD_eq_getElem?_getD]
    cases e1 : q'[i]? <;> cases e2 : q[i]? <;> rw [e1, e2] at this <;> simp_all
  rw [this]
theorem other_fits {p : Prg} {m : Mem} (t : Nat) (d : Int) (h : fitsB p m = true) : fitsB p (otherM m t d) = true := by
  unfold fitsB tasksB at h ⊢
  simp only [Bool.and_eq_true, decide_eq_true_eq, allI_iff, otherM, partO_len] at h ⊢
  refine ⟨h.1, h.2.1, fun i hi => ?_⟩
  rw [← h.2.2 i hi]
  refine sizedB_lens ?_
  simp only [List.getD_eq_getElem?_getD, partO_get]
  cases e : m.arrays[i]? with
  | none => rfl
  | some x =>
    simp only [Option.map_some, Option.getD_some]
    split
    · exact addTo_lens d x
    · rfl
theorem Runs.other {p : Prg} {t : Int} {m : Mem} (h : Runs p t m) (d : Int) : Runs p t (otherM m t.toNat d) := ⟨h.ok, h.lo, h.hi, other_fits _ d h.fits⟩
theorem own_other (m : Mem) (t : Int) (d : Int) : own (otherM m t.toNat d) t = own m t := by
  unfold own otherM
  simp only [List.getD_eq_getElem?_getD, partO_get]
  cases m.arrays[t.toNat]? <;> simp
/-- What the law looks at. -/
structure Apart (m o : Mem) (t : Nat) (r s : JobRes) : Prop where
  out : s.out = r.out
  err : s.err = r.err
  steps : s.steps = r.steps
  read : s.read = r.read
  shared : s.mem.shared = r.mem.shared
  l1 : r.mem.arrays.length = m.arrays.length
  l2 : s.mem.arrays.length = m.arrays.length
  at_ : r.mem.arrays[t]? = s.mem.arrays[t]?
  r : ∀ i, i ≠ t → r.mem.arrays[i]? = m.arrays[i]?
  s : ∀ i, i ≠ t → s.mem.arrays[i]? = o.arrays[i]?
theorem Runs.apart {p : Prg} {t : Int} {m : Mem} (h : Runs p t m) (inp : List Int) (fuel d : Int) : Apart m (otherM m t.toNat d) t.toNat (jobAll p t m inp fuel) (jobAll p t (otherM m t.toNat d) inp fuel) := by
  have ho := h.other d
  rw [h.run, ho.run]
  have e : bodyRun p t (otherM m t.toNat d) inp fuel = bodyRun p t m inp fuel := by
    unfold bodyRun
    rw [own_other]
    rfl
  rw [e, own_other]
  generalize bodyRun p t m inp fuel = r
  unfold jobFin
  refine ⟨rfl, rfl, rfl, rfl, rfl, by simp, by simp [otherM, partO_len], ?_, ?_, ?_⟩
  · simp only [List.getElem?_set, otherM, partO_len]
    by_cases h : t.toNat < m.arrays.length
    · simp [h]
    · simp [h]
  · intro i hi
    simp only [List.getElem?_set]
    rw [if_neg (Ne.symm hi)]
  · intro i hi
    simp only [List.getElem?_set]
    rw [if_neg (Ne.symm hi)]
end Go.Proofs.YtgmapenlgammfaaGreatDoor
