/- From the form's reading of the arguments to how they lie in the base. -/
import Derived.Test.YtgmapenlgammfaaGreatDoorAwake
import Derived.Test.YtgmapenlgammfaaGreatDoorCard
set_option linter.all false
namespace Go.Proofs.YtgmapenlgammfaaGreatDoor
open Go Go.ChangeShapes Go.WideShapes
attribute [local semireducible] HasAt Base
section
variable {H : Type} {enc : TypeId × Value → H} {P : Program} {w : World} {base : Nat} {spare : Nat → Bool} {held : Bool} {fuel : Nat} {t : TypeId} {cs : List Value} {x : DataW H × List MemPlace}
/-- A slice's elements as rows. -/
theorem slice_rows {e : TypeId} {sz : Nat} (ht : P.underlying t = some (.slice e)) (hs : P.cellsOf e = sz) (hp : 0 < sz) (h : DataW.trod enc P w base spare held fuel t cs = some x) :
    ∃ A len cap rows, cs = [.slice A len cap] ∧ len ≤ cap ∧ cap ≤ maxLen ∧ rows.length = len ∧ RowsB w sz A rows ∧ ∀ r ∈ rows, ∃ n y, n < fuel ∧ DataW.trod enc P w base spare held n e r = some y := by
  subst hs
  rcases DataW.trod_slice ht h with ⟨rfl, _⟩ | ⟨a, len, cap, elems, rest, n, rfl, rfl, _, _, hl, hm, hlen, hel, _, _⟩
  · exact ⟨none, 0, 0, [], rfl, Nat.le_refl _, Nat.zero_le _, rfl, (fun i r e => by simp at e), by simp⟩
  · have key : ∀ i, i < len → ∃ r y, w.cells? base (a.add (i * P.cellsOf e)) (P.cellsOf e) = some r ∧ DataW.trod enc P w base spare held n e r = some y := by
      intro i hi
      have := hel i hi
      rw [List.getElem?_eq_getElem (by omega)] at this
      obtain ⟨r, h1, h2⟩ := Option.bind_eq_some_iff.1 this
      exact ⟨r, _, h1, h2⟩
    refine ⟨some a, len, cap, (List.range len).map (fun i => (w.cells? base (a.add (i * P.cellsOf e)) (P.cellsOf e)).getD []), rfl, hl, hm, by simp, ?_, ?_⟩
    · intro i r er
      rw [List.getElem?_map] at er
      have hi : i < len := by
        rcases Nat.lt_or_ge i len with hi | hi
        · exact hi
        · rw [List.getElem?_eq_none (by simpa using hi)] at er; cases er
      rw [List.getElem?_range hi] at er
      obtain ⟨r', y, h1, h2⟩ := key i hi
      rw [Option.map_some, h1, Option.getD_some] at er
      obtain rfl : r' = r := by simpa using er
      obtain ⟨_, hrl, hc⟩ := World.cells?_some h1
      obtain ⟨b, o, s⟩ := a
      obtain rfl : s = none := by
        obtain ⟨r0, y0, k1, _⟩ := key 0 (by omega)
        obtain ⟨_, kl, kc⟩ := World.cells?_some k1
        have h0 : (r0[0]?).isSome = true := by simp; omega
        obtain ⟨v0, hv0⟩ := Option.isSome_iff_exists.1 h0
        have hsp := World.cell?_spot ((kc 0 hp).trans hv0)
        simpa [Addr.add] using hsp
      refine ⟨b, o, rfl, hrl, ?_⟩
      intro j v hv
      have hj : j < P.cellsOf e := by
        rcases Nat.lt_or_ge j r'.length with hj | hj
        · omega
        · rw [List.getElem?_eq_none hj] at hv; cases hv
      have := (hc j hj).trans hv
      rw [show (({ block := b, off := o } : Addr).add (i * P.cellsOf e)).add j = ⟨b, o + i * P.cellsOf e + j, none⟩ by
        simp only [Addr.add]; split <;> split <;> simp_all] at this
      exact this
    · intro r hr
      obtain ⟨i, hi, rfl⟩ := List.mem_map.1 hr
      obtain ⟨r', y, h1, h2⟩ := key i (by simpa using hi)
      exact ⟨n, y, by omega, by rw [h1]; exact h2⟩
def FieldsAre (P : Program) (t : TypeId) (l : List (Nat × TypeId)) : Prop := ∃ fs : Array Field, P.underlying t = some (.struct fs) ∧ fs.toList.map (fun f => (f.offset, f.type)) = l
theorem struct_fields {l : List (Nat × TypeId)} {sz : Nat} (hf : FieldsAre P t l) (hs : P.cellsOf t = sz) (h : DataW.trod enc P w base spare held fuel t cs = some x) :
    cs.length = sz ∧ ∀ p ∈ l, ∃ n y, n < fuel ∧ DataW.trod enc P w base spare held n p.2 ((cs.drop p.1).take (P.cellsOf p.2)) = some y := by
  obtain ⟨fs, ht, rfl⟩ := hf
  obtain ⟨xs, n, rfl, _, hl, hxs, hd⟩ := DataW.trod_struct ht h
  refine ⟨hl.trans hs, ?_⟩
  intro p hp
  obtain ⟨f, hf, rfl⟩ := List.mem_map.1 hp
  obtain ⟨i, hi, rfl⟩ := List.getElem_of_mem hf
  have hi' : i < fs.size := by simpa using hi
  have := hd i fs[i] (by simp [hi'])
  rw [List.getElem?_eq_getElem (by omega)] at this
  exact ⟨n, _, by omega, by simpa using this⟩
/-- A list of meanings for a list of rows. -/
theorem list_of {α β : Type} {R : α → β → Prop} : ∀ {rows : List β}, (∀ r ∈ rows, ∃ a, R a r) → ∃ l : List α, l.length = rows.length ∧ (∀ (i : Nat) m r, l[i]? = some m → rows[i]? = some r → R m r) ∧ ∀ a ∈ l, ∃ r ∈ rows, R a r
  | [], _ => ⟨[], rfl, fun i m r e => by simp at e, by simp⟩
  | r :: rows, h => by
    obtain ⟨a, ha⟩ := h r (by simp)
    obtain ⟨l, h1, h2, h3⟩ := list_of (rows := rows) fun x hx => h x (by simp [hx])
    refine ⟨a :: l, by simp [h1], ?_, ?_⟩
    · intro i m x e1 e2
      cases i with
      | zero => simp at e1 e2; subst e1; subst e2; exact ha
      | succ i => exact h2 i m x (by simpa using e1) (by simpa using e2)
    · intro b hb
      rcases List.mem_cons.1 hb with rfl | hb
      · exact ⟨r, by simp, ha⟩
      · obtain ⟨x, hx, hR⟩ := h3 b hb
        exact ⟨x, by simp [hx], hR⟩
theorem len2 {α : Type} {l : List α} (h : l.length = 2) : ∃ a b, l = [a, b] := by
  match l, h with
  | [a, b], _ => exact ⟨a, b, rfl⟩
theorem len4 {α : Type} {l : List α} (h : l.length = 4) : ∃ a b c d, l = [a, b, c, d] := by
  match l, h with
  | [a, b, c, d], _ => exact ⟨a, b, c, d, rfl⟩
theorem len8 {α : Type} {l : List α} (h : l.length = 8) : ∃ a b c d a' b' c' d', l = [a, b, c, d, a', b', c', d'] := by
  match l, h with
  | [a, b, c, d, a', b', c', d'], _ => exact ⟨a, b, c, d, a', b', c', d', rfl⟩
/-- Rows that a function writes. -/
theorem list_eq {α β : Type} {f : α → β} {Q : α → Prop} : ∀ {rows : List β}, (∀ r ∈ rows, ∃ a, r = f a ∧ Q a) → ∃ l : List α, rows = l.map f ∧ ∀ a ∈ l, Q a
  | [], _ => ⟨[], rfl, by simp⟩
  | r :: rows, h => by
    obtain ⟨a, rfl, ha⟩ := h r (by simp)
    obtain ⟨l, rfl, h2⟩ := list_eq (rows := rows) fun x hx => h x (by simp [hx])
    exact ⟨a :: l, rfl, fun b hb => (List.mem_cons.1 hb).elim (fun e => e ▸ ha) (h2 b)⟩
end
section
variable {H : Type} {enc : TypeId × Value → H} {w : World} {base : Nat} {spare : Nat → Bool} {held : Bool} {fuel : Nat} {cs : List Value} {x : DataW H × List MemPlace}
theorem cells_int : Tryz.prog.cellsOf 3 = 1 := by kernel_rfl
theorem cells_int32 : Tryz.prog.cellsOf 21 = 1 := by kernel_rfl
theorem cells_u8 : Tryz.prog.cellsOf 5 = 1 := by kernel_rfl
theorem cells_string : Tryz.prog.cellsOf 9 = 1 := by kernel_rfl
theorem cells_ints : Tryz.prog.cellsOf 30 = 1 := by kernel_rfl
theorem cells_mat : Tryz.prog.cellsOf 27 = 1 := by kernel_rfl
theorem cells_cub : Tryz.prog.cellsOf 26 = 1 := by kernel_rfl
theorem cells_strings : Tryz.prog.cellsOf 47 = 1 := by kernel_rfl
theorem cells_arrays : Tryz.prog.cellsOf 22 = 1 := by kernel_rfl
theorem cells_tasks : Tryz.prog.cellsOf 23 = 1 := by kernel_rfl
theorem cells_nodes : Tryz.prog.cellsOf 48 = 1 := by kernel_rfl
theorem cells_array : Tryz.prog.cellsOf 90 = 2 := by kernel_rfl
theorem cells_node : Tryz.prog.cellsOf 50 = 4 := by kernel_rfl
theorem cells_task : Tryz.prog.cellsOf 52 = 8 := by kernel_rfl
theorem cells_program : Tryz.prog.cellsOf 25 = 2 := by kernel_rfl
theorem cells_memory : Tryz.prog.cellsOf 29 = 2 := by kernel_rfl
theorem fields_array : FieldsAre Tryz.prog 90 [(0, 9), (1, 3)] := ⟨_, Tryz.underlying90, rfl⟩
theorem fields_node : FieldsAre Tryz.prog 50 [(0, 5), (1, 3), (2, 9), (3, 48)] := ⟨_, Tryz.underlying50, rfl⟩
theorem fields_task : FieldsAre Tryz.prog 52 [(0, 9), (1, 3), (2, 47), (3, 22), (4, 50)] := ⟨_, Tryz.underlying52, rfl⟩
theorem fields_program : FieldsAre Tryz.prog 25 [(0, 22), (1, 23)] := ⟨_, Tryz.underlying25, rfl⟩
theorem fields_memory : FieldsAre Tryz.prog 29 [(0, 26), (1, 27)] := ⟨_, Tryz.underlying29, rfl⟩
theorem open_ints' (h : DataW.trod enc Tryz.prog w base spare held fuel 30 cs = some x) : ∃ v l, cs = [v] ∧ IntsR w v l ∧ (∀ x ∈ l, I32 x) ∧ l.length ≤ maxLen := by
  obtain ⟨A, len, cap, rows, rfl, h1, h2, h3, h4, h5⟩ := slice_rows Tryz.underlying30 cells_int32 (by omega) h
  obtain ⟨l, rfl, hl⟩ := list_eq (f := fun n => [intV n]) (Q := I32) (rows := rows) (fun r hr => by
    obtain ⟨n, y, _, hy⟩ := h5 r hr
    obtain ⟨k, rfl, _, hw⟩ := DataW.trod_int Tryz.underlying21 hy
    exact ⟨k, rfl, bounds_i32 hw⟩)
  simp only [List.length_map] at h3
  subst h3
  exact ⟨_, l, rfl, ⟨A, cap, rfl, h1, by rw [List.map_map]; exact h4⟩, hl, by omega⟩
theorem open_mat' (h : DataW.trod enc Tryz.prog w base spare held fuel 27 cs = some x) : ∃ v m, cs = [v] ∧ MatR w v m ∧ (∀ l ∈ m, ∀ x ∈ l, I32 x) ∧ MatL m := by
  obtain ⟨A, len, cap, rows, rfl, h1, h2, h3, h4, h5⟩ := slice_rows Tryz.underlying27 cells_ints (by omega) h
  obtain ⟨vs, rfl, hvs⟩ := list_eq (f := fun v => [v]) (Q := fun v => ∃ l, IntsR w v l ∧ (∀ x ∈ l, I32 x) ∧ l.length ≤ maxLen) (rows := rows) (fun r hr => by
    obtain ⟨n, y, _, hy⟩ := h5 r hr
    obtain ⟨v, l, rfl, hv⟩ := open_ints' hy
    exact ⟨v, rfl, l, hv⟩)
  obtain ⟨m, hm1, hm2, hm3⟩ := list_of (R := fun l v => IntsR w v l ∧ (∀ x ∈ l, I32 x) ∧ l.length ≤ maxLen) hvs
  simp only [List.length_map] at h3
  rw [← hm1] at h3
  subst h3
  exact ⟨_, m, rfl, ⟨A, cap, vs, rfl, h1, hm1.symm, h4, fun i l u e1 e2 => (hm2 i l u e1 e2).1⟩, fun l hl => by obtain ⟨_, _, _, h, _⟩ := hm3 l hl; exact h, by omega, fun l hl => by obtain ⟨_, _, _, _, h⟩ := hm3 l hl; exact h⟩
theorem open_cub' (h : DataW.trod enc Tryz.prog w base spare held fuel 26 cs = some x) : ∃ v q, cs = [v] ∧ CubR w v q ∧ (∀ m ∈ q, ∀ l ∈ m, ∀ x ∈ l, I32 x) ∧ q.length ≤ maxLen ∧ ∀ m ∈ q, MatL m := by
  obtain ⟨A, len, cap, rows, rfl, h1, h2, h3, h4, h5⟩ := slice_rows Tryz.underlying26 cells_mat (by omega) h
  obtain ⟨vs, rfl, hvs⟩ := list_eq (f := fun v => [v]) (Q := fun v => ∃ m, MatR w v m ∧ (∀ l ∈ m, ∀ x ∈ l, I32 x) ∧ MatL m) (rows := rows) (fun r hr => by
    obtain ⟨n, y, _, hy⟩ := h5 r hr
    obtain ⟨v, m, rfl, hv⟩ := open_mat' hy
    exact ⟨v, rfl, m, hv⟩)
  obtain ⟨m, hm1, hm2, hm3⟩ := list_of (R := fun m v => MatR w v m ∧ (∀ l ∈ m, ∀ x ∈ l, I32 x) ∧ MatL m) hvs
  simp only [List.length_map] at h3
  rw [← hm1] at h3
  subst h3
  exact ⟨_, m, rfl, ⟨A, cap, vs, rfl, h1, hm1.symm, h4, fun i l u e1 e2 => (hm2 i l u e1 e2).1⟩, fun l hl => by obtain ⟨_, _, _, h, _⟩ := hm3 l hl; exact h, by omega, fun l hl => by obtain ⟨_, _, _, _, h⟩ := hm3 l hl; exact h⟩
structure Sizes (p : Prg) : Prop where
  shared : p.shared.length ≤ maxLen
  tasks : p.tasks.length ≤ maxLen
  each : ∀ t ∈ p.tasks, t.vars.length ≤ maxLen ∧ t.arrays.length ≤ maxLen
theorem open_memory (h : DataW.trod enc Tryz.prog w base spare held fuel 29 cs = some x) : ∃ m, MemR w cs m ∧ Mem32 m ∧ MemL m := by
  obtain ⟨hl, hf⟩ := struct_fields fields_memory cells_memory h
  obtain ⟨u, v, rfl⟩ := len2 hl
  obtain ⟨_, _, _, h0⟩ := hf (0, 26) (by simp)
  obtain ⟨_, _, _, h1⟩ := hf (1, 27) (by simp)
  rw [cells_cub] at h0
  rw [cells_mat] at h1
  obtain ⟨u', q, e, hq, hq1, hq2, hq3⟩ := open_cub' h0
  obtain ⟨v', m, e', hm, hm1, hm2⟩ := open_mat' h1
  simp at e e'
  subst e; subst e'
  exact ⟨⟨q, m⟩, ⟨u, v, rfl, hq, hm⟩, ⟨hq1, hm1⟩, ⟨hq2, hq3, hm2⟩⟩
theorem open_int' (h : DataW.trod enc Tryz.prog w base spare held fuel 3 cs = some x) : ∃ n, cs = [.int .i64 n] := by
  obtain ⟨k, h, _, _⟩ := DataW.trod_int Tryz.underlying3 h
  exact ⟨k, h⟩
theorem open_string' (h : DataW.trod enc Tryz.prog w base spare held fuel 9 cs = some x) : ∃ s, cs = [.string s] := by
  obtain ⟨k, h, _, _⟩ := DataW.trod_string Tryz.underlying9 h
  exact ⟨k, h⟩
theorem open_arrays (h : DataW.trod enc Tryz.prog w base spare held fuel 22 cs = some x) : ∃ (A : Option Addr) (c : Nat) (l : List Arr), cs = [.slice A l.length c] ∧ l.length ≤ c ∧ c ≤ maxLen ∧ RowsB w 2 A (l.map arrRow) := by
  obtain ⟨A, len, cap, rows, rfl, h1, h2, h3, h4, h5⟩ := slice_rows Tryz.underlying22 cells_array (by omega) h
  obtain ⟨l, rfl, _⟩ := list_eq (f := arrRow) (Q := fun _ => True) (rows := rows) (fun r hr => by
    obtain ⟨n, y, _, hy⟩ := h5 r hr
    obtain ⟨hl, hf⟩ := struct_fields fields_array cells_array hy
    obtain ⟨u, v, rfl⟩ := len2 hl
    obtain ⟨_, _, _, h0⟩ := hf (0, 9) (by simp)
    obtain ⟨_, _, _, h1⟩ := hf (1, 3) (by simp)
    rw [cells_string] at h0
    rw [cells_int] at h1
    obtain ⟨s, e⟩ := open_string' h0
    obtain ⟨k, e'⟩ := open_int' h1
    simp at e e'
    subst e; subst e'
    exact ⟨⟨s, k⟩, rfl, trivial⟩)
  simp only [List.length_map] at h3
  subst h3
  exact ⟨A, cap, l, rfl, h1, h2, h4⟩
theorem open_strings' (h : DataW.trod enc Tryz.prog w base spare held fuel 47 cs = some x) : ∃ (A : Option Addr) (c : Nat) (l : List ByteArray), cs = [.slice A l.length c] ∧ l.length ≤ c ∧ c ≤ maxLen ∧ RowsB w 1 A (l.map strRow) := by
  obtain ⟨A, len, cap, rows, rfl, h1, h2, h3, h4, h5⟩ := slice_rows Tryz.underlying47 cells_string (by omega) h
  obtain ⟨l, rfl, _⟩ := list_eq (f := strRow) (Q := fun _ => True) (rows := rows) (fun r hr => by
    obtain ⟨n, y, _, hy⟩ := h5 r hr
    obtain ⟨s, rfl⟩ := open_string' hy
    exact ⟨s, rfl, trivial⟩)
  simp only [List.length_map] at h3
  subst h3
  exact ⟨A, cap, l, rfl, h1, h2, h4⟩
theorem open_node : ∀ {fuel : Nat} {cs : List Value} {x : DataW H × List MemPlace}, DataW.trod enc Tryz.prog w base spare held fuel 50 cs = some x → ∃ n, NodeR w n cs := by
  intro fuel
  induction fuel using Nat.strongRecOn with
  | _ fuel ih =>
    intro cs x h
    obtain ⟨hl, hf⟩ := struct_fields fields_node cells_node h
    obtain ⟨c0, c1, c2, c3, rfl⟩ := len4 hl
    obtain ⟨_, _, _, h0⟩ := hf (0, 5) (by simp)
    obtain ⟨_, _, _, h1⟩ := hf (1, 3) (by simp)
    obtain ⟨_, _, _, h2⟩ := hf (2, 9) (by simp)
    obtain ⟨f3, _, hf3, h3⟩ := hf (3, 48) (by simp)
    rw [cells_u8] at h0
    rw [cells_int] at h1
    rw [cells_string] at h2
    rw [cells_nodes] at h3
    obtain ⟨k, e0, _, _⟩ := DataW.trod_int Tryz.underlying5 h0
    obtain ⟨n, e1⟩ := open_int' h1
    obtain ⟨s, e2⟩ := open_string' h2
    obtain ⟨A, len, cap, rows, e3, g1, g2, g3, g4, g5⟩ := slice_rows Tryz.underlying48 cells_node (by omega) h3
    simp at e0 e1 e2 e3
    subst e0; subst e1; subst e2; subst e3
    obtain ⟨l, hl1, hl2, _⟩ := list_of (R := fun n r => NodeR w n r) (rows := rows) (fun r hr => by
      obtain ⟨f, y, hlt, hy⟩ := g5 r hr
      exact ih f (by omega) hy)
    rw [← hl1] at g3
    subst g3
    exact ⟨.mk k n s l, .mk hl1.symm g1 g4 hl2⟩
theorem open_task (h : DataW.trod enc Tryz.prog w base spare held fuel 52 cs = some x) : ∃ t, TaskR w t cs ∧ t.vars.length ≤ maxLen ∧ t.arrays.length ≤ maxLen := by
  obtain ⟨hl, hf⟩ := struct_fields fields_task cells_task h
  obtain ⟨c0, c1, c2, c3, c4, c5, c6, c7, rfl⟩ := len8 hl
  obtain ⟨_, _, _, h0⟩ := hf (0, 9) (by simp)
  obtain ⟨_, _, _, h1⟩ := hf (1, 3) (by simp)
  obtain ⟨_, _, _, h2⟩ := hf (2, 47) (by simp)
  obtain ⟨_, _, _, h3⟩ := hf (3, 22) (by simp)
  obtain ⟨_, _, _, h4⟩ := hf (4, 50) (by simp)
  rw [cells_string] at h0
  rw [cells_int] at h1
  rw [cells_strings] at h2
  rw [cells_arrays] at h3
  rw [cells_node] at h4
  obtain ⟨s, e0⟩ := open_string' h0
  obtain ⟨n, e1⟩ := open_int' h1
  obtain ⟨A1, k1, l1, e2, a1, a2, a3⟩ := open_strings' h2
  obtain ⟨A2, k2, l2, e3, b1, b2, b3⟩ := open_arrays h3
  obtain ⟨nd, hn⟩ := open_node h4
  simp at e0 e1 e2 e3
  subst e0; subst e1; subst e2; subst e3
  exact ⟨⟨s, n, l1, l2, nd⟩, ⟨A1, k1, A2, k2, [c4, c5, c6, c7], rfl, a1, b1, a3, b3, by simpa using hn⟩, Nat.le_trans a1 a2, Nat.le_trans b1 b2⟩
theorem open_program (h : DataW.trod enc Tryz.prog w base spare held fuel 25 cs = some x) : ∃ p, PrgR w p cs ∧ Sizes p := by
  obtain ⟨hl, hf⟩ := struct_fields fields_program cells_program h
  obtain ⟨u, v, rfl⟩ := len2 hl
  obtain ⟨_, _, _, h0⟩ := hf (0, 22) (by simp)
  obtain ⟨_, _, _, h1⟩ := hf (1, 23) (by simp)
  rw [cells_arrays] at h0
  rw [cells_tasks] at h1
  obtain ⟨A1, k1, l1, e, a1, a2, a3⟩ := open_arrays h0
  obtain ⟨A, len, cap, rows, e3, g1, g2, g3, g4, g5⟩ := slice_rows Tryz.underlying23 cells_task (by omega) h1
  simp at e e3
  subst e; subst e3
  obtain ⟨l, hl1, hl2, hl3⟩ := list_of (R := fun t r => TaskR w t r ∧ t.vars.length ≤ maxLen ∧ t.arrays.length ≤ maxLen) (rows := rows) (fun r hr => by
    obtain ⟨f, y, hlt, hy⟩ := g5 r hr
    exact open_task hy)
  rw [← hl1] at g3
  subst g3
  exact ⟨⟨l1, l⟩, ⟨A1, k1, A, cap, rfl, a1, g1, a3, ⟨rows, hl1.symm, g4, fun i m r e1 e2 => (hl2 i m r e1 e2).1⟩⟩, ⟨Nat.le_trans a1 a2, Nat.le_trans g1 g2, fun t ht => by obtain ⟨_, _, h⟩ := hl3 t ht; exact h.2⟩⟩
end
end Go.Proofs.YtgmapenlgammfaaGreatDoor
