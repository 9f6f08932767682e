/- The program's data as plain Lean: trees, tasks, programs; and how they lie in the base. -/
import Derived.Test.YtgmapenlgammfaaGreatDoorMap
set_option linter.all false
namespace Go.Proofs.YtgmapenlgammfaaGreatDoor
open Go
attribute [local semireducible] HasAt Base

/-- A node of a syntax tree. -/
inductive Node where
  | mk (kind num : Int) (name : ByteArray) (kids : List Node)
namespace Node
def kind : Node → Int | .mk k _ _ _ => k
def num : Node → Int | .mk _ n _ _ => n
def name : Node → ByteArray | .mk _ _ s _ => s
def kids : Node → List Node | .mk _ _ _ l => l
mutual
/-- The number of nodes. -/
def size : Node → Nat
  | .mk _ _ _ l => sizeAll l + 1
def sizeAll : List Node → Nat
  | [] => 0
  | n :: r => size n + sizeAll r
end
theorem size_mem {l : List Node} {n : Node} (h : n ∈ l) : n.size ≤ sizeAll l := by
  induction l with
  | nil => cases h
  | cons x r ih =>
    rcases List.mem_cons.1 h with rfl | h
    · simp [sizeAll]
    · have := ih h; simp [sizeAll]; omega
theorem size_pos (n : Node) : 0 < n.size := by cases n; simp [size]
theorem length_le (l : List Node) : l.length ≤ sizeAll l := by
  induction l with
  | nil => simp
  | cons x r ih => have := size_pos x; simp [sizeAll]; omega
theorem size_eq (n : Node) : n.size = sizeAll n.kids + 1 := by cases n; simp [size, kids]
theorem size_kid {n m : Node} (h : m ∈ n.kids) : m.size < n.size := by rw [size_eq n]; have := size_mem h; omega
theorem kids_le (n : Node) : n.kids.length < n.size := by rw [size_eq n]; have := length_le n.kids; omega
end Node
structure Arr where
  name : ByteArray
  len : Int
structure Task where
  name : ByteArray
  period : Int
  vars : List ByteArray
  arrays : List Arr
  body : Node
structure Prg where
  shared : List Arr
  tasks : List Task

/-- Rows of sz cells each, one behind the other in the base, from where A says. -/
def RowsB (w0 : World) (sz : Nat) (A : Option Addr) (rows : List (List Value)) : Prop :=
  ∀ (i : Nat) r, rows[i]? = some r → ∃ b o, A = some ⟨b, o, none⟩ ∧ r.length = sz ∧ Base w0 b (o + i * sz) r
theorem Base.up {w0 w : World} {b o : Nat} {vs : List Value} (h : Base w0 b o vs) (k : Go.RowKit.Below w0.heap.size w0 w) : Base w b o vs := fun j v e => by
  have hc := h j v e
  have hlt := World.block_lt_of_cell? w0 _ hc
  unfold World.cell? at hc ⊢
  rw [k.block _ hlt]
  exact hc
theorem RowsB.up {w0 w : World} {sz : Nat} {A : Option Addr} {rows : List (List Value)} (h : RowsB w0 sz A rows) (k : Go.RowKit.Below w0.heap.size w0 w) : RowsB w sz A rows := fun i r e => by
  obtain ⟨b, o, h1, h2, h3⟩ := h i r e
  exact ⟨b, o, h1, h2, h3.up k⟩
/-- How a tree lies in the base: its four cells. -/
inductive NodeR (w0 : World) : Node → List Value → Prop
  | mk {k n : Int} {s : ByteArray} {kids : List Node} {A : Option Addr} {cap : Nat} {rows : List (List Value)} (hl : rows.length = kids.length) (hc : kids.length ≤ cap) (hb : RowsB w0 4 A rows)
      (hk : ∀ (i : Nat) m r, kids[i]? = some m → rows[i]? = some r → NodeR w0 m r) : NodeR w0 (.mk k n s kids) [.int .u8 k, .int .i64 n, .string s, .slice A kids.length cap]
theorem NodeR.open {w0 : World} {n : Node} {cs : List Value} (h : NodeR w0 n cs) : ∃ A cap rows, cs = [.int .u8 n.kind, .int .i64 n.num, .string n.name, .slice A n.kids.length cap] ∧ n.kids.length ≤ cap ∧ rows.length = n.kids.length ∧ RowsB w0 4 A rows ∧ ∀ (i : Nat) m r, n.kids[i]? = some m → rows[i]? = some r → NodeR w0 m r := by
  cases h with
  | mk hl hc hb hk => exact ⟨_, _, _, rfl, hc, hl, hb, hk⟩
theorem NodeR.up {w0 w : World} (k : Go.RowKit.Below w0.heap.size w0 w) {n : Node} {cs : List Value} (h : NodeR w0 n cs) : NodeR w n cs := by
  induction h with
  | mk hl hc hb hk ih => exact .mk hl hc (hb.up k) ih
/-- A list of trees as a slice. -/
structure NodesR (w0 : World) (A : Option Addr) (l : List Node) : Prop where
  ex : ∃ rows : List (List Value), rows.length = l.length ∧ RowsB w0 4 A rows ∧ ∀ (i : Nat) m r, l[i]? = some m → rows[i]? = some r → NodeR w0 m r
theorem NodeR.kids {w0 : World} {n : Node} {cs : List Value} (h : NodeR w0 n cs) : ∃ A cap, cs = [.int .u8 n.kind, .int .i64 n.num, .string n.name, .slice A n.kids.length cap] ∧ n.kids.length ≤ cap ∧ NodesR w0 A n.kids := by
  obtain ⟨A, cap, rows, h1, h2, h3, h4, h5⟩ := h.open
  exact ⟨A, cap, h1, h2, ⟨rows, h3, h4, h5⟩⟩
/-- Element i. -/
theorem NodesR.at_ {w0 : World} {A : Option Addr} {l : List Node} (h : NodesR w0 A l) (i : Nat) (hi : i < l.length) : ∃ b o r, A = some ⟨b, o, none⟩ ∧ Base w0 b (o + i * 4) r ∧ r.length = 4 ∧ NodeR w0 (l[i]'hi) r := by
  obtain ⟨rows, h1, h2, h3⟩ := h.ex
  have hr : rows[i]? = some (rows[i]'(by omega)) := by simp [show i < rows.length by omega]
  obtain ⟨b, o, e1, e2, e3⟩ := h2 i _ hr
  exact ⟨b, o, _, e1, e3, e2, h3 i _ _ (by simp [hi]) hr⟩
theorem NodesR.up {w0 w : World} {A : Option Addr} {l : List Node} (h : NodesR w0 A l) (k : Go.RowKit.Below w0.heap.size w0 w) : NodesR w A l := by
  obtain ⟨rows, h1, h2, h3⟩ := h.ex
  exact ⟨rows, h1, h2.up k, fun i m r e1 e2 => (h3 i m r e1 e2).up k⟩
def arrRow (a : Arr) : List Value := [.string a.name, .int .i64 a.len]
def strRow (s : ByteArray) : List Value := [.string s]
/-- A task's eight cells. -/
structure TaskR (w0 : World) (t : Task) (cs : List Value) : Prop where
  ex : ∃ A1 c1 A2 c2 bs, cs = [.string t.name, .int .i64 t.period, .slice A1 t.vars.length c1, .slice A2 t.arrays.length c2] ++ bs ∧ t.vars.length ≤ c1 ∧ t.arrays.length ≤ c2 ∧ RowsB w0 1 A1 (t.vars.map strRow) ∧ RowsB w0 2 A2 (t.arrays.map arrRow) ∧ NodeR w0 t.body bs
theorem TaskR.up {w0 w : World} {t : Task} {cs : List Value} (h : TaskR w0 t cs) (k : Go.RowKit.Below w0.heap.size w0 w) : TaskR w t cs := by
  obtain ⟨A1, c1, A2, c2, bs, h1, h2, h3, h4, h5, h6⟩ := h.ex
  exact ⟨A1, c1, A2, c2, bs, h1, h2, h3, h4.up k, h5.up k, h6.up k⟩
structure TasksR (w0 : World) (A : Option Addr) (l : List Task) : Prop where
  ex : ∃ rows : List (List Value), rows.length = l.length ∧ RowsB w0 8 A rows ∧ ∀ (i : Nat) m r, l[i]? = some m → rows[i]? = some r → TaskR w0 m r
theorem TasksR.up {w0 w : World} {A : Option Addr} {l : List Task} (h : TasksR w0 A l) (k : Go.RowKit.Below w0.heap.size w0 w) : TasksR w A l := by
  obtain ⟨rows, h1, h2, h3⟩ := h.ex
  exact ⟨rows, h1, h2.up k, fun i m r e1 e2 => (h3 i m r e1 e2).up k⟩
theorem TasksR.at_ {w0 : World} {A : Option Addr} {l : List Task} (h : TasksR w0 A l) (i : Nat) (hi : i < l.length) : ∃ b o r, A = some ⟨b, o, none⟩ ∧ Base w0 b (o + i * 8) r ∧ r.length = 8 ∧ TaskR w0 (l[i]'hi) r := by
  obtain ⟨rows, h1, h2, h3⟩ := h.ex
  have hr : rows[i]? = some (rows[i]'(by omega)) := by simp [show i < rows.length by omega]
  obtain ⟨b, o, e1, e2, e3⟩ := h2 i _ hr
  exact ⟨b, o, _, e1, e3, e2, h3 i _ _ (by simp [hi]) hr⟩
structure PrgR (w0 : World) (p : Prg) (cs : List Value) : Prop where
  ex : ∃ A1 c1 A2 c2, cs = [.slice A1 p.shared.length c1, .slice A2 p.tasks.length c2] ∧ p.shared.length ≤ c1 ∧ p.tasks.length ≤ c2 ∧ RowsB w0 2 A1 (p.shared.map arrRow) ∧ TasksR w0 A2 p.tasks
theorem PrgR.up {w0 w : World} {p : Prg} {cs : List Value} (h : PrgR w0 p cs) (k : Go.RowKit.Below w0.heap.size w0 w) : PrgR w p cs := by
  obtain ⟨A1, c1, A2, c2, h1, h2, h3, h4, h5⟩ := h.ex
  exact ⟨A1, c1, A2, c2, h1, h2, h3, h4.up k, h5.up k⟩
theorem RowsB.at_ {w0 : World} {sz : Nat} {A : Option Addr} {rows : List (List Value)} (h : RowsB w0 sz A rows) (i : Nat) (hi : i < rows.length) : ∃ b o, A = some ⟨b, o, none⟩ ∧ (rows[i]'hi).length = sz ∧ Base w0 b (o + i * sz) (rows[i]'hi) := h i _ (by simp [hi])
end Go.Proofs.YtgmapenlgammfaaGreatDoor
