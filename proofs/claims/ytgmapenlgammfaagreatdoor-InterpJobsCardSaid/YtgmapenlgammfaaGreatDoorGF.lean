import Derived.Test.YtgmapenlgammfaaGreatDoorCards
import Derived.Test.YtgmapenlgammfaaGreatDoorTie
import Derived.WalkKit
import Derived.ProofKit
import Derived.OpenShut
import Derived.Deep.DeepHandedRow
import Derived.Lib.LaidTab
import Derived.Lay
import Derived.Carry
import Derived.Test.YtgmapenlgammfaaGreatDoorGE
import Derived.Test.YtgmapenlgammfaaGreatDoorGC
import Derived.MakeChecks
import Derived.Deep.DeepWitnessRef
set_option linter.all false
set_option maxRecDepth 100000
/- The frame of a card: from a walk over a law to the row's statement; a world for the witness. -/
namespace Go.Proofs.YtgmapenlgammfaaGreatDoor
open Go Go.ChangeShapes Go.WideShapes Go.ChangeAt Go.RowKit
theorem trodAll_stays {H : Type} {enc : TypeId × Value → H} {P : Program} (hl : laidOutB P = true) {W W' : World} (hb : Below W.heap.size W W') {sp : Nat → Bool} : ∀ {ts : List TypeId} {vs : List Value} {ds : List (DataW H)} {ps : List MemPlace},
    (∀ t ∈ ts, P.readableRec t = true ∧ t < P.types.size) → DataW.TrodAll enc P W 0 (fun _ => true) true ts vs ds ps → (∀ x ∈ ps, x.block < W.heap.size) → (∀ x ∈ ps, sp x.block = true) → DataW.TrodAll enc P W' 0 sp true ts vs ds ps
  | [], [], [], _, _, h, _, _ => h
  | t :: ts, v :: vs, d :: ds, _, ht, ⟨p, q, h, hs, rfl⟩, hlt, hsp =>
    ⟨p, q, WideElems.Trod_stays hl (ht t (by simp)).1 (ht t (by simp)).2 h (fun x hx => hb.same (hlt x (by simp [hx]))) (fun x hx => hsp x (by simp [hx])),
      trodAll_stays hl hb (fun u hu => ht u (by simp [hu])) hs (fun x hx => hlt x (by simp [hx])) (fun x hx => hsp x (by simp [hx])), rfl⟩
  | [], [], _ :: _, _, _, h, _, _ => h.elim
  | [], _ :: _, _, _, _, h, _, _ => h.elim
  | _ :: _, [], _, _, _, h, _, _ => h.elim
  | _ :: _, _ :: _, [], _, _, h, _, _ => h.elim
/-- The frozen marks of the places before alone are asked. -/
theorem post_of_below {H : Type} {enc : TypeId × Value → H} {P : Program} {f : Func} {s : ChangeSpec} {apart fresh handsOn again : Bool} {W W' : World} {args : Array Value} {v : Value} {ds gs : List (DataW H)} {before pa pv : List MemPlace}
    (hW : DataW.Whole enc P f.params.toList s.vars apart W args.toList ds gs before)
    (hres : ∀ (b : Nat) (sp : Nat → Bool) (hd : Bool), DataW.TrodAll enc P W' b sp hd f.resultTypes.toList (v.resultList f.resultTypes.size) (s.fn H (ds ++ gs)).results [])
    (hargs : ∀ sp : Nat → Bool, (∀ p ∈ before, sp p.block = true) → DataW.TrodAll enc P W' 0 sp true f.params.toList args.toList (s.fn H (ds ++ gs)).args pa)
    (hvars : ∀ sp : Nat → Bool, (∀ p ∈ before, sp p.block = true) → DataW.TrodVars enc P W' sp s.vars (s.fn H (ds ++ gs)).vars pv)
    (hps : before = pa ++ pv) (hb : Below W.heap.size W W')
    (hok : ∀ (j : Nat) (t : TypeId) (r : Value), f.resultTypes[j]? = some t → (v.resultList f.resultTypes.size)[j]? = some r → Value.okWide P W' .any 0 t r) :
    s.post enc P f apart fresh handsOn again W args v W' := by
  have hlt : ∀ p ∈ before, p.block < W.heap.size := fun p hp => hW.lt p hp
  have hold : ∀ p ∈ before, (fun b => decide (b < W.heap.size)) p.block = true := fun p hp => by simpa using hW.lt p hp
  refine ⟨ds, gs, before, [], pa, pv, hW, hres _ _ _, hargs _ hold, hvars _ hold, World.keptBut_mono (fun p hp => ⟨hp, ?_⟩) (hb.frame _), fun _ => ?_⟩
  · rw [hps, List.mem_append] at hp
    exact Or.inr hp
  · obtain ⟨_, _, _, _, _, hz, hn⟩ := hW
    refine ⟨hok, _, _, ([] ++ pa) ++ pv, ⟨[] ++ pa, pv, trodAll_append (hargs _ (fun _ _ => rfl)) (hres _ _ _), hvars _ (fun _ _ => rfl), rfl, ?_, ?_⟩, ?_⟩
    · intro b off hp
      have hp' : (.cell b off : MemPlace) ∈ before := by rw [hps]; simpa using hp
      rw [hb.frozen (show b < W.heap.size from hlt _ hp')]
      exact hz b off hp'
    · intro ha
      have := hn ha
      rw [hps] at this
      simpa using this
    · intro p hp _
      rw [hps]
      simpa using hp
theorem law_contractP {H : Type} {P : Program} (hl : laidOutB P = true) {tb : TypeId} (hbool : P.underlying tb = some .bool) {enc : TypeId × Value → H} {W : World} {args : Array Value} {ds gs : List (DataW H)} {before : List MemPlace} {f : FuncId} {fn : Func} {spec : ChangeSpec} (hv : spec.vars = []) (hrt : fn.resultTypes = #[tb])
    (hts : ∀ t ∈ fn.params.toList, P.readableRec t = true ∧ t < P.types.size)
    (hspec : ∀ ds : List (DataW H), ds.length = fn.params.toList.length → spec.fn H ds = { results := [.lit (.bool true)], args := ds })
    (hW : DataW.Whole enc P fn.params.toList spec.vars false W args.toList ds gs before)
    (walk : Calls P f args W fun e W' => e = .returned (.bool true) ∧ Below W.heap.size W W') :
    Calls P f args W fun e W' => ∃ v, e = .returned v ∧ spec.post enc P fn false true false false W args v W' := by
  refine walk.mono fun e W' ⟨he, hb⟩ => ?_
  subst he
  have hW' := hW
  obtain ⟨p, q, hA, hV, rfl, hfz, hnd⟩ := hW
  rw [hv] at hV
  obtain ⟨rfl, rfl⟩ := trodVars_none hV
  have hlen : ∀ {ts : List TypeId} {vs : List Value} {ds : List (DataW H)} {ps : List MemPlace}, DataW.TrodAll enc P W 0 (fun _ => true) true ts vs ds ps → ds.length = ts.length := by
    intro ts
    induction ts with
    | nil => intro vs ds ps h; cases vs <;> cases ds <;> first | rfl | exact h.elim
    | cons t ts ih =>
      intro vs ds ps h
      cases vs with
      | nil => exact h.elim
      | cons v vs =>
        cases ds with
        | nil => exact h.elim
        | cons d ds =>
          obtain ⟨_, _, _, hs, _⟩ := h
          simp [ih hs]
  have e := hspec ds (hlen hA)
  simp only [List.append_nil] at hW'
  have hlt : ∀ x ∈ p, x.block < W.heap.size := fun x hx => hW'.lt x hx
  refine ⟨_, rfl, post_of_below (pa := p) (pv := []) hW' ?_ ?_ ?_ (by simp) hb ?_⟩
  · intro b sp hd
    rw [List.append_nil, e, hrt]
    exact trodAll_cons_mk (shut_bool hbool _) trodAll_mk0
  · intro sp hsp
    rw [List.append_nil, e]
    exact trodAll_stays hl hb hts hA hlt hsp
  · intro sp hsp
    rw [List.append_nil, e, hv]
    simp [DataW.TrodVars]
  · exact ok_one (P := P) (f := fn) (v := .bool true) (t := tb) hrt (by simp [Value.resultList]) (okWide_bool_mk hbool _)
theorem laidOut' : laidOutB Tryz.prog = true := by kernel_rfl
theorem law_contract {H : Type} {enc : TypeId × Value → H} {W : World} {args : Array Value} {ds gs : List (DataW H)} {before : List MemPlace} {f : FuncId} {fn : Func} {spec : ChangeSpec} (hv : spec.vars = []) (hrt : fn.resultTypes = #[4])
    (hts : ∀ t ∈ fn.params.toList, Tryz.prog.readableRec t = true ∧ t < Tryz.prog.types.size)
    (hspec : ∀ ds : List (DataW H), ds.length = fn.params.toList.length → spec.fn H ds = { results := [.lit (.bool true)], args := ds })
    (hW : DataW.Whole enc Tryz.prog fn.params.toList spec.vars false W args.toList ds gs before)
    (walk : Calls Tryz.prog f args W fun e W' => e = .returned (.bool true) ∧ Below W.heap.size W W') :
    Calls Tryz.prog f args W fun e W' => ∃ v, e = .returned v ∧ spec.post enc Tryz.prog fn false true false false W args v W' :=
  law_contractP laidOut' Tryz.underlying4 hv hrt hts hspec hW walk
end Go.Proofs.YtgmapenlgammfaaGreatDoor

/- From the form's reading of the arguments to how they lie in the base. -/
namespace Go.Proofs.YtgmapenlgammfaaGreatDoor
open Go Go.ChangeShapes Go.WideShapes
attribute [local semireducible] HasAt Base
section
variable {H : Type} {enc : TypeId × Value → H} {P : Program} {w : World} {base : Nat} {spare : Nat → Bool} {held : Bool} {fuel : Nat} {t : TypeId} {cs : List Value} {x : DataW H × List MemPlace}
/-- A slice's elements as rows. -/
theorem slice_rows {e : TypeId} {sz : Nat} (ht : P.underlying t = some (.slice e)) (hs : P.cellsOf e = sz) (hp : 0 < sz) (h : DataW.trod enc P w base spare held fuel t cs = some x) :
    ∃ A len cap rows, cs = [.slice A len cap] ∧ len ≤ cap ∧ cap ≤ maxLen ∧ rows.length = len ∧ RowsB w sz A rows ∧ ∀ r ∈ rows, ∃ n y, n < fuel ∧ DataW.trod enc P w base spare held n e r = some y := by
  subst hs
  rcases DataW.trod_slice ht h with ⟨rfl, _⟩ | ⟨a, len, cap, elems, rest, n, rfl, rfl, _, _, hl, hm, hlen, hel, _, _⟩
  · exact ⟨none, 0, 0, [], rfl, Nat.le_refl _, Nat.zero_le _, rfl, (fun i r e => by simp at e), by simp⟩
  · have key : ∀ i, i < len → ∃ r y, w.cells? base (a.add (i * P.cellsOf e)) (P.cellsOf e) = some r ∧ DataW.trod enc P w base spare held n e r = some y := by
      intro i hi
      have := hel i hi
      rw [List.getElem?_eq_getElem (by omega)] at this
      obtain ⟨r, h1, h2⟩ := Option.bind_eq_some_iff.1 this
      exact ⟨r, _, h1, h2⟩
    refine ⟨some a, len, cap, (List.range len).map (fun i => (w.cells? base (a.add (i * P.cellsOf e)) (P.cellsOf e)).getD []), rfl, hl, hm, by simp, ?_, ?_⟩
    · intro i r er
      rw [List.getElem?_map] at er
      have hi : i < len := by
        rcases Nat.lt_or_ge i len with hi | hi
        · exact hi
        · rw [List.getElem?_eq_none (by simpa using hi)] at er; cases er
      rw [List.getElem?_range hi] at er
      obtain ⟨r', y, h1, h2⟩ := key i hi
      rw [Option.map_some, h1, Option.getD_some] at er
      obtain rfl : r' = r := by simpa using er
      obtain ⟨_, hrl, hc⟩ := World.cells?_some h1
      obtain ⟨b, o, s⟩ := a
      obtain rfl : s = none := by
        obtain ⟨r0, y0, k1, _⟩ := key 0 (by omega)
        obtain ⟨_, kl, kc⟩ := World.cells?_some k1
        have h0 : (r0[0]?).isSome = true := by simp; omega
        obtain ⟨v0, hv0⟩ := Option.isSome_iff_exists.1 h0
        have hsp := World.cell?_spot ((kc 0 hp).trans hv0)
        simpa [Addr.add] using hsp
      refine ⟨b, o, rfl, hrl, ?_⟩
      intro j v hv
      have hj : j < P.cellsOf e := by
        rcases Nat.lt_or_ge j r'.length with hj | hj
        · omega
        · rw [List.getElem?_eq_none hj] at hv; cases hv
      have := (hc j hj).trans hv
      rw [show (({ block := b, off := o } : Addr).add (i * P.cellsOf e)).add j = ⟨b, o + i * P.cellsOf e + j, none⟩ by
        simp only [Addr.add]; split <;> split <;> simp_all] at this
      exact this
    · intro r hr
      obtain ⟨i, hi, rfl⟩ := List.mem_map.1 hr
      obtain ⟨r', y, h1, h2⟩ := key i (by simpa using hi)
      exact ⟨n, y, by omega, by rw [h1]; exact h2⟩
def FieldsAre (P : Program) (t : TypeId) (l : List (Nat × TypeId)) : Prop := ∃ fs : Array Field, P.underlying t = some (.struct fs) ∧ fs.toList.map (fun f => (f.offset, f.type)) = l
theorem struct_fields {l : List (Nat × TypeId)} {sz : Nat} (hf : FieldsAre P t l) (hs : P.cellsOf t = sz) (h : DataW.trod enc P w base spare held fuel t cs = some x) :
    cs.length = sz ∧ ∀ p ∈ l, ∃ n y, n < fuel ∧ DataW.trod enc P w base spare held n p.2 ((cs.drop p.1).take (P.cellsOf p.2)) = some y := by
  obtain ⟨fs, ht, rfl⟩ := hf
  obtain ⟨xs, n, rfl, _, hl, hxs, hd⟩ := DataW.trod_struct ht h
  refine ⟨hl.trans hs, ?_⟩
  intro p hp
  obtain ⟨f, hf, rfl⟩ := List.mem_map.1 hp
  obtain ⟨i, hi, rfl⟩ := List.getElem_of_mem hf
  have hi' : i < fs.size := by simpa using hi
  have := hd i fs[i] (by simp [hi'])
  rw [List.getElem?_eq_getElem (by omega)] at this
  exact ⟨n, _, by omega, by simpa using this⟩
/-- A list of meanings for a list of rows. -/
theorem list_of {α β : Type} {R : α → β → Prop} : ∀ {rows : List β}, (∀ r ∈ rows, ∃ a, R a r) → ∃ l : List α, l.length = rows.length ∧ (∀ (i : Nat) m r, l[i]? = some m → rows[i]? = some r → R m r) ∧ ∀ a ∈ l, ∃ r ∈ rows, R a r
  | [], _ => ⟨[], rfl, fun i m r e => by simp at e, by simp⟩
  | r :: rows, h => by
    obtain ⟨a, ha⟩ := h r (by simp)
    obtain ⟨l, h1, h2, h3⟩ := list_of (rows := rows) fun x hx => h x (by simp [hx])
    refine ⟨a :: l, by simp [h1], ?_, ?_⟩
    · intro i m x e1 e2
      cases i with
      | zero => simp at e1 e2; subst e1; subst e2; exact ha
      | succ i => exact h2 i m x (by simpa using e1) (by simpa using e2)
    · intro b hb
      rcases List.mem_cons.1 hb with rfl | hb
      · exact ⟨r, by simp, ha⟩
      · obtain ⟨x, hx, hR⟩ := h3 b hb
        exact ⟨x, by simp [hx], hR⟩
theorem len2 {α : Type} {l : List α} (h : l.length = 2) : ∃ a b, l = [a, b] := by
  match l, h with
  | [a, b], _ => exact ⟨a, b, rfl⟩
theorem len4 {α : Type} {l : List α} (h : l.length = 4) : ∃ a b c d, l = [a, b, c, d] := by
  match l, h with
  | [a, b, c, d], _ => exact ⟨a, b, c, d, rfl⟩
theorem len8 {α : Type} {l : List α} (h : l.length = 8) : ∃ a b c d a' b' c' d', l = [a, b, c, d, a', b', c', d'] := by
  match l, h with
  | [a, b, c, d, a', b', c', d'], _ => exact ⟨a, b, c, d, a', b', c', d', rfl⟩
/-- Rows that a function writes. -/
theorem list_eq {α β : Type} {f : α → β} {Q : α → Prop} : ∀ {rows : List β}, (∀ r ∈ rows, ∃ a, r = f a ∧ Q a) → ∃ l : List α, rows = l.map f ∧ ∀ a ∈ l, Q a
  | [], _ => ⟨[], rfl, by simp⟩
  | r :: rows, h => by
    obtain ⟨a, rfl, ha⟩ := h r (by simp)
    obtain ⟨l, rfl, h2⟩ := list_eq (rows := rows) fun x hx => h x (by simp [hx])
    exact ⟨a :: l, rfl, fun b hb => (List.mem_cons.1 hb).elim (fun e => e ▸ ha) (h2 b)⟩
end
section
variable {H : Type} {enc : TypeId × Value → H} {w : World} {base : Nat} {spare : Nat → Bool} {held : Bool} {fuel : Nat} {cs : List Value} {x : DataW H × List MemPlace}
theorem cells_int : Tryz.prog.cellsOf 3 = 1 := by kernel_rfl
theorem cells_int32 : Tryz.prog.cellsOf 21 = 1 := by kernel_rfl
theorem cells_u8 : Tryz.prog.cellsOf 5 = 1 := by kernel_rfl
theorem cells_string : Tryz.prog.cellsOf 9 = 1 := by kernel_rfl
theorem cells_ints : Tryz.prog.cellsOf 30 = 1 := by kernel_rfl
theorem cells_mat : Tryz.prog.cellsOf 27 = 1 := by kernel_rfl
theorem cells_cub : Tryz.prog.cellsOf 26 = 1 := by kernel_rfl
theorem cells_strings : Tryz.prog.cellsOf 47 = 1 := by kernel_rfl
theorem cells_arrays : Tryz.prog.cellsOf 22 = 1 := by kernel_rfl
theorem cells_tasks : Tryz.prog.cellsOf 23 = 1 := by kernel_rfl
theorem cells_nodes : Tryz.prog.cellsOf 48 = 1 := by kernel_rfl
theorem cells_array : Tryz.prog.cellsOf 90 = 2 := by kernel_rfl
theorem cells_node : Tryz.prog.cellsOf 50 = 4 := by kernel_rfl
theorem cells_task : Tryz.prog.cellsOf 52 = 8 := by kernel_rfl
theorem cells_program : Tryz.prog.cellsOf 25 = 2 := by kernel_rfl
theorem cells_memory : Tryz.prog.cellsOf 29 = 2 := by kernel_rfl
theorem fields_array : FieldsAre Tryz.prog 90 [(0, 9), (1, 3)] := ⟨_, Tryz.underlying90, rfl⟩
theorem fields_node : FieldsAre Tryz.prog 50 [(0, 5), (1, 3), (2, 9), (3, 48)] := ⟨_, Tryz.underlying50, rfl⟩
theorem fields_task : FieldsAre Tryz.prog 52 [(0, 9), (1, 3), (2, 47), (3, 22), (4, 50)] := ⟨_, Tryz.underlying52, rfl⟩
theorem fields_program : FieldsAre Tryz.prog 25 [(0, 22), (1, 23)] := ⟨_, Tryz.underlying25, rfl⟩
theorem fields_memory : FieldsAre Tryz.prog 29 [(0, 26), (1, 27)] := ⟨_, Tryz.underlying29, rfl⟩
theorem open_ints' (h : DataW.trod enc Tryz.prog w base spare held fuel 30 cs = some x) : ∃ v l, cs = [v] ∧ IntsR w v l ∧ (∀ x ∈ l, I32 x) ∧ l.length ≤ maxLen := by
  obtain ⟨A, len, cap, rows, rfl, h1, h2, h3, h4, h5⟩ := slice_rows Tryz.underlying30 cells_int32 (by omega) h
  obtain ⟨l, rfl, hl⟩ := list_eq (f := fun n => [intV n]) (Q := I32) (rows := rows) (fun r hr => by
    obtain ⟨n, y, _, hy⟩ := h5 r hr
    obtain ⟨k, rfl, _, hw⟩ := DataW.trod_int Tryz.underlying21 hy
    exact ⟨k, rfl, bounds_i32 hw⟩)
  simp only [List.length_map] at h3
  subst h3
  exact ⟨_, l, rfl, ⟨A, cap, rfl, h1, by rw [List.map_map]; exact h4⟩, hl, by omega⟩
theorem open_mat' (h : DataW.trod enc Tryz.prog w base spare held fuel 27 cs = some x) : ∃ v m, cs = [v] ∧ MatR w v m ∧ (∀ l ∈ m, ∀ x ∈ l, I32 x) ∧ MatL m := by
  obtain ⟨A, len, cap, rows, rfl, h1, h2, h3, h4, h5⟩ := slice_rows Tryz.underlying27 cells_ints (by omega) h
  obtain ⟨vs, rfl, hvs⟩ := list_eq (f := fun v => [v]) (Q := fun v => ∃ l, IntsR w v l ∧ (∀ x ∈ l, I32 x) ∧ l.length ≤ maxLen) (rows := rows) (fun r hr => by
    obtain ⟨n, y, _, hy⟩ := h5 r hr
    obtain ⟨v, l, rfl, hv⟩ := open_ints' hy
    exact ⟨v, rfl, l, hv⟩)
  obtain ⟨m, hm1, hm2, hm3⟩ := list_of (R := fun l v => IntsR w v l ∧ (∀ x ∈ l, I32 x) ∧ l.length ≤ maxLen) hvs
  simp only [List.length_map] at h3
  rw [← hm1] at h3
  subst h3
  exact ⟨_, m, rfl, ⟨A, cap, vs, rfl, h1, hm1.symm, h4, fun i l u e1 e2 => (hm2 i l u e1 e2).1⟩, fun l hl => by obtain ⟨_, _, _, h, _⟩ := hm3 l hl; exact h, by omega, fun l hl => by obtain ⟨_, _, _, _, h⟩ := hm3 l hl; exact h⟩
theorem open_cub' (h : DataW.trod enc Tryz.prog w base spare held fuel 26 cs = some x) : ∃ v q, cs = [v] ∧ CubR w v q ∧ (∀ m ∈ q, ∀ l ∈ m, ∀ x ∈ l, I32 x) ∧ q.length ≤ maxLen ∧ ∀ m ∈ q, MatL m := by
  obtain ⟨A, len, cap, rows, rfl, h1, h2, h3, h4, h5⟩ := slice_rows Tryz.underlying26 cells_mat (by omega) h
  obtain ⟨vs, rfl, hvs⟩ := list_eq (f := fun v => [v]) (Q := fun v => ∃ m, MatR w v m ∧ (∀ l ∈ m, ∀ x ∈ l, I32 x) ∧ MatL m) (rows := rows) (fun r hr => by
    obtain ⟨n, y, _, hy⟩ := h5 r hr
    obtain ⟨v, m, rfl, hv⟩ := open_mat' hy
    exact ⟨v, rfl, m, hv⟩)
  obtain ⟨m, hm1, hm2, hm3⟩ := list_of (R := fun m v => MatR w v m ∧ (∀ l ∈ m, ∀ x ∈ l, I32 x) ∧ MatL m) hvs
  simp only [List.length_map] at h3
  rw [← hm1] at h3
  subst h3
  exact ⟨_, m, rfl, ⟨A, cap, vs, rfl, h1, hm1.symm, h4, fun i l u e1 e2 => (hm2 i l u e1 e2).1⟩, fun l hl => by obtain ⟨_, _, _, h, _⟩ := hm3 l hl; exact h, by omega, fun l hl => by obtain ⟨_, _, _, _, h⟩ := hm3 l hl; exact h⟩
structure Sizes (p : Prg) : Prop where
  shared : p.shared.length ≤ maxLen
  tasks : p.tasks.length ≤ maxLen
  each : ∀ t ∈ p.tasks, t.vars.length ≤ maxLen ∧ t.arrays.length ≤ maxLen
theorem open_memory (h : DataW.trod enc Tryz.prog w base spare held fuel 29 cs = some x) : ∃ m, MemR w cs m ∧ Mem32 m ∧ MemL m := by
  obtain ⟨hl, hf⟩ := struct_fields fields_memory cells_memory h
  obtain ⟨u, v, rfl⟩ := len2 hl
  obtain ⟨_, _, _, h0⟩ := hf (0, 26) (by simp)
  obtain ⟨_, _, _, h1⟩ := hf (1, 27) (by simp)
  rw [cells_cub] at h0
  rw [cells_mat] at h1
  obtain ⟨u', q, e, hq, hq1, hq2, hq3⟩ := open_cub' h0
  obtain ⟨v', m, e', hm, hm1, hm2⟩ := open_mat' h1
  simp at e e'
  subst e; subst e'
  exact ⟨⟨q, m⟩, ⟨u, v, rfl, hq, hm⟩, ⟨hq1, hm1⟩, ⟨hq2, hq3, hm2⟩⟩
theorem open_int' (h : DataW.trod enc Tryz.prog w base spare held fuel 3 cs = some x) : ∃ n, cs = [.int .i64 n] := by
  obtain ⟨k, h, _, _⟩ := DataW.trod_int Tryz.underlying3 h
  exact ⟨k, h⟩
theorem open_string' (h : DataW.trod enc Tryz.prog w base spare held fuel 9 cs = some x) : ∃ s, cs = [.string s] := by
  obtain ⟨k, h, _, _⟩ := DataW.trod_string Tryz.underlying9 h
  exact ⟨k, h⟩
theorem open_arrays (h : DataW.trod enc Tryz.prog w base spare held fuel 22 cs = some x) : ∃ (A : Option Addr) (c : Nat) (l : List Arr), cs = [.slice A l.length c] ∧ l.length ≤ c ∧ c ≤ maxLen ∧ RowsB w 2 A (l.map arrRow) := by
  obtain ⟨A, len, cap, rows, rfl, h1, h2, h3, h4, h5⟩ := slice_rows Tryz.underlying22 cells_array (by omega) h
  obtain ⟨l, rfl, _⟩ := list_eq (f := arrRow) (Q := fun _ => True) (rows := rows) (fun r hr => by
    obtain ⟨n, y, _, hy⟩ := h5 r hr
    obtain ⟨hl, hf⟩ := struct_fields fields_array cells_array hy
    obtain ⟨u, v, rfl⟩ := len2 hl
    obtain ⟨_, _, _, h0⟩ := hf (0, 9) (by simp)
    obtain ⟨_, _, _, h1⟩ := hf (1, 3) (by simp)
    rw [cells_string] at h0
    rw [cells_int] at h1
    obtain ⟨s, e⟩ := open_string' h0
    obtain ⟨k, e'⟩ := open_int' h1
    simp at e e'
    subst e; subst e'
    exact ⟨⟨s, k⟩, rfl, trivial⟩)
  simp only [List.length_map] at h3
  subst h3
  exact ⟨A, cap, l, rfl, h1, h2, h4⟩
theorem open_strings' (h : DataW.trod enc Tryz.prog w base spare held fuel 47 cs = some x) : ∃ (A : Option Addr) (c : Nat) (l : List ByteArray), cs = [.slice A l.length c] ∧ l.length ≤ c ∧ c ≤ maxLen ∧ RowsB w 1 A (l.map strRow) := by
  obtain ⟨A, len, cap, rows, rfl, h1, h2, h3, h4, h5⟩ := slice_rows Tryz.underlying47 cells_string (by omega) h
  obtain ⟨l, rfl, _⟩ := list_eq (f := strRow) (Q := fun _ => True) (rows := rows) (fun r hr => by
    obtain ⟨n, y, _, hy⟩ := h5 r hr
    obtain ⟨s, rfl⟩ := open_string' hy
    exact ⟨s, rfl, trivial⟩)
  simp only [List.length_map] at h3
  subst h3
  exact ⟨A, cap, l, rfl, h1, h2, h4⟩
theorem open_node : ∀ {fuel : Nat} {cs : List Value} {x : DataW H × List MemPlace}, DataW.trod enc Tryz.prog w base spare held fuel 50 cs = some x → ∃ n, NodeR w n cs := by
  intro fuel
  induction fuel using Nat.strongRecOn with
  | _ fuel ih =>
    intro cs x h
    obtain ⟨hl, hf⟩ := struct_fields fields_node cells_node h
    obtain ⟨c0, c1, c2, c3, rfl⟩ := len4 hl
    obtain ⟨_, _, _, h0⟩ := hf (0, 5) (by simp)
    obtain ⟨_, _, _, h1⟩ := hf (1, 3) (by simp)
    obtain ⟨_, _, _, h2⟩ := hf (2, 9) (by simp)
    obtain ⟨f3, _, hf3, h3⟩ := hf (3, 48) (by simp)
    rw [cells_u8] at h0
    rw [cells_int] at h1
    rw [cells_string] at h2
    rw [cells_nodes] at h3
    obtain ⟨k, e0, _, _⟩ := DataW.trod_int Tryz.underlying5 h0
    obtain ⟨n, e1⟩ := open_int' h1
    obtain ⟨s, e2⟩ := open_string' h2
    obtain ⟨A, len, cap, rows, e3, g1, g2, g3, g4, g5⟩ := slice_rows Tryz.underlying48 cells_node (by omega) h3
    simp at e0 e1 e2 e3
    subst e0; subst e1; subst e2; subst e3
    obtain ⟨l, hl1, hl2, _⟩ := list_of (R := fun n r => NodeR w n r) (rows := rows) (fun r hr => by
      obtain ⟨f, y, hlt, hy⟩ := g5 r hr
      exact ih f (by omega) hy)
    rw [← hl1] at g3
    subst g3
    exact ⟨.mk k n s l, .mk hl1.symm g1 g4 hl2⟩
theorem open_task (h : DataW.trod enc Tryz.prog w base spare held fuel 52 cs = some x) : ∃ t, TaskR w t cs ∧ t.vars.length ≤ maxLen ∧ t.arrays.length ≤ maxLen := by
  obtain ⟨hl, hf⟩ := struct_fields fields_task cells_task h
  obtain ⟨c0, c1, c2, c3, c4, c5, c6, c7, rfl⟩ := len8 hl
  obtain ⟨_, _, _, h0⟩ := hf (0, 9) (by simp)
  obtain ⟨_, _, _, h1⟩ := hf (1, 3) (by simp)
  obtain ⟨_, _, _, h2⟩ := hf (2, 47) (by simp)
  obtain ⟨_, _, _, h3⟩ := hf (3, 22) (by simp)
  obtain ⟨_, _, _, h4⟩ := hf (4, 50) (by simp)
  rw [cells_string] at h0
  rw [cells_int] at h1
  rw [cells_strings] at h2
  rw [cells_arrays] at h3
  rw [cells_node] at h4
  obtain ⟨s, e0⟩ := open_string' h0
  obtain ⟨n, e1⟩ := open_int' h1
  obtain ⟨A1, k1, l1, e2, a1, a2, a3⟩ := open_strings' h2
  obtain ⟨A2, k2, l2, e3, b1, b2, b3⟩ := open_arrays h3
  obtain ⟨nd, hn⟩ := open_node h4
  simp at e0 e1 e2 e3
  subst e0; subst e1; subst e2; subst e3
  exact ⟨⟨s, n, l1, l2, nd⟩, ⟨A1, k1, A2, k2, [c4, c5, c6, c7], rfl, a1, b1, a3, b3, by simpa using hn⟩, Nat.le_trans a1 a2, Nat.le_trans b1 b2⟩
theorem open_program (h : DataW.trod enc Tryz.prog w base spare held fuel 25 cs = some x) : ∃ p, PrgR w p cs ∧ Sizes p := by
  obtain ⟨hl, hf⟩ := struct_fields fields_program cells_program h
  obtain ⟨u, v, rfl⟩ := len2 hl
  obtain ⟨_, _, _, h0⟩ := hf (0, 22) (by simp)
  obtain ⟨_, _, _, h1⟩ := hf (1, 23) (by simp)
  rw [cells_arrays] at h0
  rw [cells_tasks] at h1
  obtain ⟨A1, k1, l1, e, a1, a2, a3⟩ := open_arrays h0
  obtain ⟨A, len, cap, rows, e3, g1, g2, g3, g4, g5⟩ := slice_rows Tryz.underlying23 cells_task (by omega) h1
  simp at e e3
  subst e; subst e3
  obtain ⟨l, hl1, hl2, hl3⟩ := list_of (R := fun t r => TaskR w t r ∧ t.vars.length ≤ maxLen ∧ t.arrays.length ≤ maxLen) (rows := rows) (fun r hr => by
    obtain ⟨f, y, hlt, hy⟩ := g5 r hr
    exact open_task hy)
  rw [← hl1] at g3
  subst g3
  exact ⟨⟨l1, l⟩, ⟨A1, k1, A, cap, rfl, a1, g1, a3, ⟨rows, hl1.symm, g4, fun i m r e1 e2 => (hl2 i m r e1 e2).1⟩⟩, ⟨Nat.le_trans a1 a2, Nat.le_trans g1 g2, fun t ht => by obtain ⟨_, _, h⟩ := hl3 t ht; exact h.2⟩⟩
end
end Go.Proofs.YtgmapenlgammfaaGreatDoor

/- What a job comes to, as plain laws: sizes, fuel, input. -/
namespace Go.Proofs.YtgmapenlgammfaaGreatDoor
open Go

/-- What is not too great is small. -/
theorem fit_of_great {p : Prg} (h : greatP p = false) : Fit p := by
  unfold greatP at h
  simp only [Bool.or_eq_false_iff, decide_eq_false_iff_not, List.any_eq_false] at h
  obtain ⟨⟨h1, h2⟩, h3⟩ := h
  refine ⟨by omega, by omega, ?_⟩
  intro t ht
  have := h3 t ht
  unfold greatT at this
  simp only [Bool.not_eq_true, Bool.or_eq_false_iff, decide_eq_false_iff_not] at this
  obtain ⟨⟨g1, g2⟩, g3⟩ := this
  have := bigB_size g3
  omega
structure Small (m : Mem) (inp : List Int) : Prop where
  len : m.arrays.length ≤ 10
  each : ∀ q ∈ m.arrays, q.length ≤ 10 ∧ ∀ l ∈ q, l.length ≤ 70
  sh : m.shared.length ≤ 10 ∧ ∀ l ∈ m.shared, l.length ≤ 70
  inp : inp.length ≤ 40
theorem smallB_le {m : List (List Int)} (h : smallB m = true) : m.length ≤ 10 ∧ ∀ l ∈ m, l.length ≤ 70 := by
  unfold smallB at h
  simp only [Bool.and_eq_true, List.all_eq_true, Bool.not_eq_true', decide_eq_false_iff_not, decide_eq_true_eq] at h
  exact ⟨by omega, fun l hl => by have := h.1 l hl; omega⟩
theorem small_of_great {p : Prg} {m : Mem} {inp : List Int} (h : greatL p m inp = false) : Fit p ∧ Small m inp := by
  unfold greatL at h
  simp only [Bool.or_eq_false_iff, Bool.not_eq_false', decide_eq_false_iff_not, List.any_eq_false, Bool.not_eq_true, Bool.not_eq_false'] at h
  obtain ⟨⟨⟨⟨h1, h2⟩, h3⟩, h4⟩, h5⟩ := h
  exact ⟨fit_of_great h1, ⟨by omega, fun q hq => smallB_le (h5 q hq), smallB_le h2, by omega⟩⟩
/-- What can run. -/
structure Runs (p : Prg) (t : Int) (m : Mem) : Prop where
  ok : okB p = true
  lo : 0 ≤ t
  hi : t < (p.tasks.length : Int)
  fits : fitsB p m = true
theorem runs_of {p : Prg} {t : Int} {m : Mem} (h : runB p t m = true) : Runs p t m := by
  unfold runB refFitsB at h
  simp only [Bool.and_eq_true, decide_eq_true_eq] at h
  obtain ⟨⟨⟨h1, h2⟩, h3⟩, ⟨_, h5⟩, h6⟩ := h
  refine ⟨h1, by omega, h3, ?_⟩
  unfold fitsB
  rw [h5, h6]
  unfold okB at h1
  rw [Bool.and_eq_true] at h1
  rw [h1.1]
  rfl
theorem Runs.all {p : Prg} {t : Int} {m : Mem} (h : Runs p t m) (inp : List Int) (fuel : Int) : jobAll p t m inp fuel = jobRun p t.toNat m inp fuel := by
  unfold jobAll
  rw [if_neg (by rw [h.ok]; simp), if_neg (by have := h.lo; have := h.hi; omega), if_neg (by rw [h.fits]; simp)]
/-- The task, its arrays. -/
def tsk (p : Prg) (t : Int) : Task := p.tasks.getD t.toNat task0
def own (m : Mem) (t : Int) : List (List Int) := m.arrays.getD t.toNat []
/-- The run of a task's body. -/
def bodyRun (p : Prg) (t : Int) (m : Mem) (inp : List Int) (fuel : Int) : JR := execN (jobE (tsk p t) p inp fuel) (tsk p t).body (job0 (tsk p t) (own m t) m.shared)
theorem Runs.run {p : Prg} {t : Int} {m : Mem} (h : Runs p t m) (inp : List Int) (fuel : Int) : jobAll p t m inp fuel = jobFin m t.toNat (own m t).length (bodyRun p t m inp fuel) := h.all inp fuel
theorem getD_mem0 {α : Type} {l : List α} {i : Nat} {d : α} (h : i < l.length) : l.getD i d ∈ l := by
  rw [List.getD_eq_getElem?_getD, List.getElem?_eq_getElem h]
  exact List.getElem_mem h
theorem Runs.lens {p : Prg} {t : Int} {m : Mem} (h : Runs p t m) (hf : Fit p) : t.toNat < m.arrays.length ∧ t.toNat < p.tasks.length := by
  have := (fits_facts hf h.fits).ar
  have := h.lo
  have := h.hi
  omega
theorem Runs.ok0 {p : Prg} {t : Int} {m : Mem} (h : Runs p t m) (hf : Fit p) (h32 : Mem32 m) (inp : List Int) (hi : ∀ x ∈ inp, I32 x) (fuel : Int) : OKJ (jobE (tsk p t) p inp fuel) ((own m t ++ m.shared).map List.length) (bodyRun p t m inp fuel).1 := by
  refine execN_ok _ hi ⟨?_, ?_, rfl, Nat.le_refl _, Nat.le_refl _, .inl rfl⟩
  · intro nm x hx
    simp only [job0, varsOf] at hx
    split at hx
    · injection hx with hx; subst hx; exact .zero
    · cases hx
  · intro l hl x hx
    simp only [job0, List.mem_append] at hl
    rcases hl with hl | hl
    · exact h32.arrays _ (getD_mem0 (h.lens hf).1) l hl x hx
    · exact h32.shared l hl x hx
theorem map_len {l : List (List Int)} {n : List Nat} (h : l.map List.length = n) {x : List Int} (hx : x ∈ l) : x.length ∈ n := by
  rw [← h]; exact List.mem_map_of_mem hx
/-- What a job leaves is as great as what it found. -/
theorem Runs.sizes {p : Prg} {t : Int} {m : Mem} (h : Runs p t m) (hf : Fit p) (h32 : Mem32 m) {inp : List Int} (hi : ∀ x ∈ inp, I32 x) (hs : Small m inp) (fuel : Int) (hfu : fuel ≤ 1000000) : MemL (jobAll p t m inp fuel).mem ∧ (jobAll p t m inp fuel).out.length ≤ 1000000 ∧ (jobAll p t m inp fuel).steps ≤ 1000000 ∧ (jobAll p t m inp fuel).read ≤ 1000000 := by
  have o := h.ok0 hf h32 inp hi fuel
  have ho := hs.each _ (getD_mem0 (d := []) (h.lens hf).1)
  rw [h.run]
  generalize hr : bodyRun p t m inp fuel = r at *
  have hst : r.1.steps ≤ 1000000 := by
    rcases o.steps with h0 | h0
    · omega
    · have : (jobE (tsk p t) p inp fuel).fuel = fuel := rfl
      omega
  have hc : ∀ l ∈ r.1.cells, l.length ≤ 70 := by
    intro l hl
    have hm := map_len o.lens hl
    obtain ⟨x, hx, e⟩ := List.mem_map.1 hm
    rw [← e]
    rcases List.mem_append.1 hx with hx | hx
    · exact ho.2 x hx
    · exact hs.sh.2 x hx
  have hl : r.1.cells.length ≤ 20 := by
    have := congrArg List.length o.lens
    simp only [List.length_map, List.length_append] at this
    have h1 : (own m t).length ≤ 10 := ho.1
    have := hs.sh.1
    omega
  unfold jobFin
  simp only [maxLen]
  refine ⟨⟨?_, ?_, ?_, ?_⟩, by have := o.out; omega, hst, by have := o.read; omega⟩
  · simp only [List.length_set, maxLen]; have := hs.len; omega
  · intro q hq
    rcases List.mem_or_eq_of_mem_set hq with hq | rfl
    · have := hs.each q hq
      exact ⟨by simp only [maxLen]; omega, fun l hl => by have := this.2 l hl; simp only [maxLen]; omega⟩
    · refine ⟨by simp only [List.length_take, maxLen]; omega, fun l hl => by have := hc l (List.mem_of_mem_take hl); simp only [maxLen]; omega⟩
  · simp only [List.length_drop, maxLen]; omega
  · intro l hl; have := hc l (List.mem_of_mem_drop hl); simp only [maxLen]; omega
theorem jobFin_err {m : Mem} {t n : Nat} {r : JR} : (jobFin m t n r).err = 13 ↔ r.2 = some 13 := by
  unfold jobFin
  cases r.2 <;> simp
/-- A job that the fuel ended made as many steps. -/
theorem Runs.out {p : Prg} {t : Int} {m : Mem} (h : Runs p t m) (inp : List Int) {fuel : Int} (h0 : 0 ≤ fuel) (e : (jobAll p t m inp fuel).err = 13) : ((jobAll p t m inp fuel).steps : Int) = fuel := by
  rw [h.run] at e ⊢
  have hF := fuelClosed.exec (tsk p t).body (jobE (tsk p t) p inp fuel) (job0 (tsk p t) (own m t) m.shared)
  have h1 := hF.out13 (jobFin_err.1 e)
  have h2 := hF.bound h0
  have : (jobE (tsk p t) p inp fuel).fuel = fuel := rfl
  rw [this] at h1 h2
  exact Int.le_antisymm h2 h1
theorem Runs.enough {p : Prg} {t : Int} {m : Mem} (h : Runs p t m) (inp : List Int) {fuel g : Int} (e : (jobAll p t m inp fuel).err ≠ 13) (hg : ((jobAll p t m inp fuel).steps : Int) ≤ g) : jobAll p t m inp g = jobAll p t m inp fuel := by
  rw [h.run] at e hg ⊢
  rw [h.run]
  have hF := fuelClosed.exec (tsk p t).body (jobE (tsk p t) p inp fuel) (job0 (tsk p t) (own m t) m.shared)
  have := hF.enough g (fun x => e (jobFin_err.2 x)) hg
  exact congrArg (jobFin m t.toNat (own m t).length) this
theorem Runs.less {p : Prg} {t : Int} {m : Mem} (h : Runs p t m) (inp : List Int) {fuel g : Int} (e : (jobAll p t m inp fuel).err ≠ 13) (h0 : 0 ≤ g) (hg : g < ((jobAll p t m inp fuel).steps : Int)) :
    (jobAll p t m inp g).err = 13 ∧ ((jobAll p t m inp g).steps : Int) = g ∧ (jobAll p t m inp g).read ≤ (jobAll p t m inp fuel).read ∧ (jobAll p t m inp g).out <+: (jobAll p t m inp fuel).out := by
  rw [h.run] at e hg ⊢
  rw [h.run]
  have hF := fuelClosed.exec (tsk p t).body (jobE (tsk p t) p inp fuel) (job0 (tsk p t) (own m t) m.shared)
  obtain ⟨s', h1, h2, h3, h4⟩ := hF.less g (fun x => e (jobFin_err.2 x)) h0 hg
  have : bodyRun p t m inp g = (s', some 13) := h1
  rw [this]
  exact ⟨rfl, h2, h3, h4⟩
/-- A job does not depend on values beyond those that it receives. -/
theorem Runs.input {p : Prg} {t : Int} {m : Mem} (h : Runs p t m) (inp l : List Int) (fuel : Int) (e : ∀ i, i < (jobAll p t m inp fuel).read → inp.getD i 0 = l.getD i 0) : jobAll p t m l fuel = jobAll p t m inp fuel := by
  rw [h.run] at e ⊢
  rw [h.run]
  have := (inpClosed.exec (tsk p t).body (jobE (tsk p t) p inp fuel) (job0 (tsk p t) (own m t) m.shared)).2 l e
  exact congrArg (jobFin m t.toNat (own m t).length) this
theorem sameB_refl (r : JobRes) (all : Bool) : sameB r r all = true := by
  unfold sameB
  rw [(eqMem_iff _ _).2 rfl]
  simp
end Go.Proofs.YtgmapenlgammfaaGreatDoor

/- What a card's door is made of: the arguments opened, the table, the witness's world. -/
namespace Go.Proofs.YtgmapenlgammfaaGreatDoor
open Go Go.ChangeShapes Go.WideShapes Go.ChangeAt Go.RowKit
attribute [local semireducible] Spec
theorem noKnob : ownKnob Tryz.prog.godebug = none := by kernel_rfl
theorem asciiSpace_eq : (Rows.laid_strings_asciiSpace : DataW Unit) = Lib.tabData .u8 Lib.asciiSpaceTab := by kernel_rfl
/-- What the row's list gives. -/
theorem tab_of {W : World} (h : laidMetH Tryz.prog [("unicode.White_Space", Rows.laid_unicode_White_Space), ("strings.asciiSpace", Rows.laid_strings_asciiSpace)] W) : Tab W := by
  rw [MakeChecks.laidMetH_plain _ _ _ (by kernel_rfl)] at h
  obtain ⟨ps, ⟨_, _, _, _, _, q, _, _, _, _, ⟨g, t, cs, fuel, p, q', h1, h2, h3, h4, _, _⟩, _⟩, _⟩ := h
  rw [asciiSpace_eq] at h4
  obtain rfl := Option.some.inj ((show Tryz.prog.globalNamed "strings.asciiSpace" = some 0 by kernel_rfl).symm.trans h1)
  obtain rfl := Option.some.inj ((show (Tryz.prog.globals[0]?).map (·.type) = some 253 by kernel_rfl).symm.trans h2)
  unfold Tab Lib.TabIs
  rw [h3, ← Lib.cells_of_tab Tryz.underlying253 Tryz.underlying5 cells_u8 (by kernel_rfl) h4]
section
variable {H : Type} {enc : TypeId × Value → H} {P : Program} {W : World} {r : Reach} {base base' : Nat} {sp : Nat → Bool} {held : Bool} {t : TypeId} {v : Value} {d : DataW H} {ps : List MemPlace}
theorem arg_struct {fs : Array Field} (ht : P.underlying t = some (.struct fs)) (hval : Value.okWide P W r base t v) (h : DataW.Trod enc P W base' sp held t v d ps) : ∃ cs : List Value, v = .agg cs.toArray ∧ ∃ fuel, DataW.trod enc P W base' sp held fuel t cs = some (d, ps) := by
  obtain ⟨a, rfl, _⟩ := okWide_struct ht hval
  obtain ⟨fuel, h⟩ := h
  exact ⟨a.toList, by simp, fuel, h⟩
theorem arg_slice {e : TypeId} (ht : P.underlying t = some (.slice e)) (hval : Value.okWide P W r base t v) (h : DataW.Trod enc P W base' sp held t v d ps) : ∃ fuel, DataW.trod enc P W base' sp held fuel t [v] = some (d, ps) := by
  obtain ⟨a, n, c, rfl⟩ := okWide_slice ht hval
  exact h
end
section
variable {H : Type} {enc : TypeId × Value → H} {W : World} {r : Reach} {base base' : Nat} {sp : Nat → Bool} {held : Bool} {v : Value} {d : DataW H} {ps : List MemPlace}
theorem arg_program (hval : Value.okWide Tryz.prog W r base 25 v) (h : DataW.Trod enc Tryz.prog W base' sp held 25 v d ps) : ∃ cs p, v = .agg cs.toArray ∧ PrgR W p cs ∧ Sizes p := by
  obtain ⟨cs, e, fuel, h⟩ := arg_struct Tryz.underlying25 hval h
  obtain ⟨p, h1, h2⟩ := open_program h
  exact ⟨cs, p, e, h1, h2⟩
theorem arg_memory (hval : Value.okWide Tryz.prog W r base 29 v) (h : DataW.Trod enc Tryz.prog W base' sp held 29 v d ps) : ∃ cs m, v = .agg cs.toArray ∧ MemR W cs m ∧ Mem32 m ∧ MemL m := by
  obtain ⟨cs, e, fuel, h⟩ := arg_struct Tryz.underlying29 hval h
  obtain ⟨m, h1, h2, h3⟩ := open_memory h
  exact ⟨cs, m, e, h1, h2, h3⟩
theorem arg_ints (hval : Value.okWide Tryz.prog W r base 30 v) (h : DataW.Trod enc Tryz.prog W base' sp held 30 v d ps) : ∃ l, IntsR W v l ∧ (∀ x ∈ l, I32 x) ∧ l.length ≤ maxLen := by
  obtain ⟨fuel, h⟩ := arg_slice Tryz.underlying30 hval h
  obtain ⟨u, l, e, h1⟩ := open_ints' h
  obtain rfl : v = u := by simpa using e
  exact ⟨l, h1⟩
end
/-- From a contract of mine to the walk. -/
theorem Spec.walk {P : Program} {W : World} {f : FuncId} {args : Array Value} (h : Spec P W f args [] (Is (.bool true))) : Calls P f args W fun e W' => e = .returned (.bool true) ∧ Below W.heap.size W W' :=
  (h [] W (fun _ => none) trivial (Sat.refl W)).mono fun e w' ⟨M', h', r, _, s⟩ => ⟨by
    cases e with
    | returned v => exact congrArg Ending.returned r.1
    | panicked c => exact r.elim
    | outgrown => exact r.elim, s.below⟩
/-- A world that fits. -/
theorem witness {H : Type} {enc : TypeId × Value → H} {os : Os} {f : FuncId} {fn : Func} {s : OpenSpec} {conds : List PathCond} (args : Array Value)
    (hok : Input.okWideB Tryz.prog ((World.laidAll Tryz.prog os [("unicode.White_Space", Rows.laid_unicode_White_Space), ("strings.asciiSpace", Rows.laid_strings_asciiSpace)]).forCall (fun _ _ => 0) ⟨#[], args, []⟩) f ⟨#[], args, []⟩ = true)
    (hrow : s.preRow enc Tryz.prog fn conds false [("unicode.White_Space", Rows.laid_unicode_White_Space), ("strings.asciiSpace", Rows.laid_strings_asciiSpace)] ((World.laidAll Tryz.prog os [("unicode.White_Space", Rows.laid_unicode_White_Space), ("strings.asciiSpace", Rows.laid_strings_asciiSpace)]).forCall (fun _ _ => 0) ⟨#[], args, []⟩).memory args) :
    ∃ (w : World) (tape : Tape) (i : Input), w.os = os ∧ (w.forCall tape i).Shaped Tryz.prog ∧ i.vars = [] ∧ Input.okWide Tryz.prog (w.forCall tape i) .any w.heap.size f i ∧
      s.preRow enc Tryz.prog fn conds false [("unicode.White_Space", Rows.laid_unicode_White_Space), ("strings.asciiSpace", Rows.laid_strings_asciiSpace)] (w.forCall tape i).memory i.args ∧ ({} : Assume).holds Tryz.prog (lone (Frame.enter Tryz.prog f i.args .normal) [] (w.forCall tape i)) :=
  ⟨World.laidAll Tryz.prog os [("unicode.White_Space", Rows.laid_unicode_White_Space), ("strings.asciiSpace", Rows.laid_strings_asciiSpace)], fun _ _ => 0, ⟨#[], args, []⟩, World.laidAll_os _ _ _,
    World.shaped_of_ZipB (by kernel_rfl) (by kernel_rfl), (Input.okWide_of_okWideB (base := 0) hok).1, (Input.okWide_of_okWideB hok).2, hrow, by
    simp only [Assume.holds]
    exact ⟨by simp, by simp, fun _ => Modest.zero, by simp, by simp⟩⟩
theorem laid_met {os : Os} (args : Array Value) : laidMetH Tryz.prog [("unicode.White_Space", Rows.laid_unicode_White_Space), ("strings.asciiSpace", Rows.laid_strings_asciiSpace)] ((World.laidAll Tryz.prog os [("unicode.White_Space", Rows.laid_unicode_White_Space), ("strings.asciiSpace", Rows.laid_strings_asciiSpace)]).forCall (fun _ _ => 0) ⟨#[], args, []⟩).memory := by
  rw [MakeChecks.laidMetH_plain _ _ _ (by kernel_rfl)]
  exact laidMet_laidAll args (by kernel_rfl) (by kernel_rfl)
end Go.Proofs.YtgmapenlgammfaaGreatDoor
