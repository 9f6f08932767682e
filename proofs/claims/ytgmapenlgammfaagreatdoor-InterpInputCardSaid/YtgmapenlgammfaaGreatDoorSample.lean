/- The law's example. -/
import Derived.Test.YtgmapenlgammfaaGreatDoorMemO
set_option linter.all false
namespace Go.Proofs.YtgmapenlgammfaaGreatDoor
open Go
theorem RL.bsl {P : Program} {w0 : World} {n : Nat} {ops : Array Oper} {Q : Exit → Act → World → Prop} {L : Env} {M : List HProp} {l : List Oper} {T : TypeId} {p : String} {af : Array Edge}
    {d : Nat} {t E sz : TypeId} {len : Nat} [q : SliceT P t E sz] {ps : List (Nat × Operand)} {xs : List Operand} {vs : List Value} (vs' : List Value) (hp : ps.map (·.2) = xs) (hx : EvL L xs vs)
    (hr : ∀ w : World, (Instr.buildSlice t len ((ps.map (·.1)).zip vs).toArray).run P w = .ok (.slice (some ⟨w.heap.size, 0, none⟩) len len) { w with heap := w.heap.push (.cells vs'.toArray E (0, 0)) }) (hd : Nat.blt d n = true)
    (k : ∀ b, RL P w0 n ops Q l ((d, .slice (some ⟨b, 0, none⟩) len len) :: L) (cel b E vs' :: M)) : RL P w0 n ops Q (⟨some d, .buildSlice t len ps.toArray, T, p, af, none⟩ :: l) L M :=
  RL.s (OpS.buildSlice vs' hp hx hr) hd (by rintro _ _ ⟨b, rfl, rfl⟩; exact k b) (fun _ _ h => h.elim)
def vN (s : ByteArray) : List Value := [.int .u8 2, .int .i64 0, .string s, .slice none 0 0]
def nV (k n : Int) (s : ByteArray) (b len : Nat) : List Value := [.int .u8 k, .int .i64 n, .string s, .slice (some ⟨b, 0, none⟩) len len]
def sI : ByteArray := ⟨#[105]⟩
def sX : ByteArray := ⟨#[120]⟩
def sA : ByteArray := ⟨#[97]⟩
def sTa : ByteArray := ⟨#[116, 97]⟩
def sE : ByteArray := ⟨#[]⟩
theorem sample1_spec (w0 : World) (s : ByteArray) : Spec Tryz.prog w0 82 #[.string s] [] (Is (.agg (vN s).toArray)) := by
  refine Spec.enter (args := [_]) Tryz.func82 rfl rfl rfl (fun F => ?_)
  refine kAutoB ?_
  (apply RL.alloc; exact rfl; exact rfl; intro b2)
  refine kAutoB ?_
  (apply RL.build (r := .agg #[.int .u8 2, .int .i64 0, .string s, .slice none 0 0]); exact rfl; exact kEvl; (intro w; kernel_rfl); exact rfl)
  (apply RL.storeA; exact kEv; exact kEv; exact kTake; exact rfl; exact rfl; exact rfl)
  refine kAutoB ?_
  exact XJ.retC rfl rfl (HasAt.pt (Takes.here _ _) atAll) rfl [] (by exact kGives) ⟨rfl, rfl⟩
def nVar (s : ByteArray) : Node := .mk 2 0 s []
def setN : Node := .mk 40 0 sE [.mk 3 0 sA [nVar sI], nVar sX]
def addN : Node := .mk 40 0 sE [nVar sX, .mk 6 0 sE [nVar sX, nVar sI]]
def loopN : Node := .mk 42 3 sI [.mk 47 0 sE [setN, addN]]
def outN : Node := .mk 45 1 sE [nVar sX]
def sampleP : Prg := ⟨[], [⟨sTa, 5, [sX], [⟨sA, 3⟩], .mk 47 0 sE [loopN, outN]⟩]⟩
section
attribute [local semireducible] Base
theorem rows_flat {w : World} {b sz : Nat} : ∀ (rows : List (List Value)) (o : Nat), (∀ r ∈ rows, r.length = sz) → Base w b o rows.flatten → ∀ (i : Nat) r, rows[i]? = some r → r.length = sz ∧ Base w b (o + i * sz) r
  | [], _, _, _, i, r, h => by simp at h
  | x :: rows, o, hs, hb, i, r, h => by
    rcases i with _ | i
    · simp at h
      subst h
      refine ⟨hs x (by simp), ?_⟩
      intro j v hv
      have := hb j v (by
        rw [List.flatten_cons, List.getElem?_append_left]
        · exact hv
        · exact (List.getElem?_eq_some_iff.1 hv).1)
      simpa using this
    · simp at h
      have hx := hs x (by simp)
      have := rows_flat rows (o + sz) (fun r hr => hs r (by simp [hr])) (fun j v hv => by
        have := hb (sz + j) v (by
          rw [List.flatten_cons, List.getElem?_append_right (by omega), hx, show sz + j - sz = j by omega]
          exact hv)
        rw [show o + (sz + j) = o + sz + j by omega] at this
        exact this) i r h
      rw [show o + (i + 1) * sz = o + sz + i * sz by rw [Nat.add_mul, Nat.one_mul]; omega]
      exact this
end
theorem rowsB_flat {w : World} {b sz : Nat} {rows : List (List Value)} (hs : ∀ r ∈ rows, r.length = sz) (hb : Base w b 0 rows.flatten) : RowsB w sz (some ⟨b, 0, none⟩) rows := fun i r h => by
  obtain ⟨h1, h2⟩ := rows_flat rows 0 hs hb i r h
  exact ⟨b, 0, rfl, h1, h2⟩
theorem nodeR_var (w : World) (s : ByteArray) : NodeR w (nVar s) (vN s) := NodeR.mk (rows := []) rfl (Nat.le_refl _) (fun i r h => by simp at h) (fun i m r h => by simp at h)
theorem nodeR_one {w : World} {k n : Int} {s : ByteArray} {b : Nat} {x : Node} {r : List Value} (hl : r.length = 4) (hx : NodeR w x r) (hb : Base w b 0 r) : NodeR w (.mk k n s [x]) (nV k n s b 1) :=
  NodeR.mk (rows := [r]) rfl (Nat.le_refl _) (rowsB_flat (by simpa using hl) (by simpa using hb)) (fun i m q h1 h2 => by
    rcases i with _ | i
    · simp at h1 h2; subst h1 h2; exact hx
    · simp at h1)
theorem nodeR_two {w : World} {k n : Int} {s : ByteArray} {b : Nat} {x y : Node} {r q : List Value} (hl : r.length = 4) (hl2 : q.length = 4) (hx : NodeR w x r) (hy : NodeR w y q) (hb : Base w b 0 (r ++ q)) : NodeR w (.mk k n s [x, y]) (nV k n s b 2) :=
  NodeR.mk (rows := [r, q]) rfl (Nat.le_refl _) (rowsB_flat (by simp [hl, hl2]) (by simpa using hb)) (fun i m z h1 h2 => by
    rcases i with _ | _ | i
    · simp at h1 h2; subst h1 h2; exact hx
    · simp at h1 h2; subst h1 h2; exact hy
    · simp at h1)
theorem sample_spec (w0 : World) : Spec Tryz.prog w0 44 #[] [] (Ret (fun v N => ∃ cs, v = .agg cs.toArray ∧ ∀ b w h F, star (N ++ F) h → Go.Proofs.YtgmapenlgammfaaGreatDoor.Sat b w h → PrgR w sampleP cs) noP) := by
  refine Spec.enter (args := []) Tryz.func44 rfl rfl rfl (fun F => ?_)
  refine kAutoB ?_
  (apply RL.alloc; exact rfl; exact rfl; intro b0)
  refine kAutoB ?_
  (apply RL.callIs; exact kEv; exact inferInstance; exact kEvl; exact (sample1_spec w0 sI); exact rfl)
  refine RL.bsl (vN sI) rfl (by exact kEvl) (fun w => by kernel_rfl) rfl (fun b9 => ?_)
  (apply RL.build (r := .agg (nV 3 0 sA b9 1).toArray); exact rfl; exact kEvl; (intro w; kernel_rfl); exact rfl)
  (apply RL.alloc; exact rfl; exact rfl; intro b2)
  (apply RL.storeA; exact kEv; exact kEv; exact kTake; exact rfl; exact rfl; exact rfl)
  refine kAutoB ?_
  refine CJ.cut (σ := Nat × Nat) (fun _ => True) (fun t => [(3, .pointer (some ⟨t.1, 0, none⟩)), (2, .pointer (some ⟨b2, 0, none⟩)), (1, .func (.func 82) #[] #[]), (0, .pointer (some ⟨b0, 0, none⟩))])
    (fun t => cel t.1 50 (nV 40 0 sE t.2 2) :: cel t.2 50 (nV 3 0 sA b9 1 ++ vN sX) :: cel b2 50 (nV 3 0 sA b9 1) :: cel b9 50 (vN sI) :: cel b0 25 [.slice none 0 0, .slice none 0 0] :: F) ?_ ?_
  · (refine CJ.draws mixed 6 [cel b2 _ _] (by exact kGives) (dom_of (by kernel_rfl)) ?_)
    ((first | refine kAjB 0 ?_ | refine kAjS 0 ?_); (first | refine kAjB 1 ?_ | refine kAjS 1 ?_))
    (refine AJ.loud2 (i := 2) (j := 5) (by kernel_rfl) (by kernel_rfl) rfl (by kernel_rfl) (by kernel_rfl) rfl rfl rfl rfl rfl rfl rfl rfl rfl rfl rfl rfl (OpS.callIs (by exact kEv) inferInstance (by exact kEvl) (sample1_spec w0 sX)) (OpS.alloc (P := Tryz.prog) (vs := [.int .u8 0, .int .i64 0, .string ⟨#[]⟩, .slice none 0 0]) rfl) ?_ ?_ ?_ ?_)
    · rintro _ _ ⟨rfl, rfl⟩
      refine ⟨by exact kGives, ?_⟩
      (refine AJ.loud2 (i := 3) (j := 5) (by kernel_rfl) (by kernel_rfl) rfl (by kernel_rfl) (by kernel_rfl) rfl rfl rfl rfl rfl rfl rfl rfl rfl rfl rfl rfl (OpS.buildSlice (E := 50) (nV 3 0 sA b9 1 ++ vN sX) rfl (by exact kEvl) (fun w => by kernel_rfl)) (OpS.alloc (P := Tryz.prog) (vs := [.int .u8 0, .int .i64 0, .string ⟨#[]⟩, .slice none 0 0]) rfl) ?_ ?_ ?_ ?_)
      · rintro _ _ ⟨b14, rfl, rfl⟩
        refine ⟨by exact kGives, ?_⟩
        (apply AJ.pur (i := 4); exact rfl; exact rfl; exact rfl; exact rfl; exact rfl; exact rfl; exact rfl; exact rfl; exact rfl; (refine OpP.build (xs := [.const (.int .u8 40), .tmp 14]) (vs := [.int .u8 40, .slice (some ⟨b14, 0, none⟩) 2 2]) (r := .agg (nV 40 0 sE b14 2).toArray) (by exact kEvl) rfl (fun w => by kernel_rfl)))
        (refine AJ.loud1 (i := 5) (by kernel_rfl) (by kernel_rfl) rfl (by kernel_rfl) (by kernel_rfl) rfl rfl rfl rfl rfl rfl (OpS.alloc (P := Tryz.prog) (vs := [.int .u8 0, .int .i64 0, .string ⟨#[]⟩, .slice none 0 0]) rfl) ?_ ?_)
        · rintro _ _ ⟨b3, rfl, rfl⟩
          refine ⟨by exact kGives, ?_⟩
          (refine AJ.tail (by kernel_rfl) (by kernel_rfl) rfl (by kernel_rfl) (by kernel_rfl) (by kernel_rfl) ?_)
          (apply RL.storeA; exact kEv; exact kEv; exact kTake; exact rfl; exact rfl; exact rfl)
          refine kAutoB ?_
          exact XJ.meet (b3, b14) trivial (by exact kEsub) (by exact kGives)
        · rintro _ _ h; exact h.elim
      · rintro _ _ h; exact h.elim
      · rintro _ _ ⟨b3, rfl, rfl⟩
        refine ⟨by exact kGives, ?_⟩
        (refine AJ.loud1 (i := 3) (by kernel_rfl) (by kernel_rfl) rfl (by kernel_rfl) (by kernel_rfl) rfl rfl rfl rfl rfl rfl (OpS.buildSlice (E := 50) (nV 3 0 sA b9 1 ++ vN sX) rfl (by exact kEvl) (fun w => by kernel_rfl)) ?_ ?_)
        · rintro _ _ ⟨b14, rfl, rfl⟩
          refine ⟨by exact kGives, ?_⟩
          (apply AJ.pur (i := 4); exact rfl; exact rfl; exact rfl; exact rfl; exact rfl; exact rfl; exact rfl; exact rfl; exact rfl; (refine OpP.build (xs := [.const (.int .u8 40), .tmp 14]) (vs := [.int .u8 40, .slice (some ⟨b14, 0, none⟩) 2 2]) (r := .agg (nV 40 0 sE b14 2).toArray) (by exact kEvl) rfl (fun w => by kernel_rfl)))
          (refine AJ.tail (by kernel_rfl) (by kernel_rfl) rfl (by kernel_rfl) (by kernel_rfl) (by kernel_rfl) ?_)
          (apply RL.storeA; exact kEv; exact kEv; exact kTake; exact rfl; exact rfl; exact rfl)
          refine kAutoB ?_
          exact XJ.meet (b3, b14) trivial (by exact kEsub) (by exact kGives)
        · rintro _ _ h; exact h.elim
      · rintro _ _ h; exact h.elim
    · rintro _ _ h; exact h.elim
    · rintro _ _ ⟨b3, rfl, rfl⟩
      refine ⟨by exact kGives, ?_⟩
      (refine AJ.loud1 (i := 2) (by kernel_rfl) (by kernel_rfl) rfl (by kernel_rfl) (by kernel_rfl) rfl rfl rfl rfl rfl rfl (OpS.callIs (by exact kEv) inferInstance (by exact kEvl) (sample1_spec w0 sX)) ?_ ?_)
      · rintro _ _ ⟨rfl, rfl⟩
        refine ⟨by exact kGives, ?_⟩
        (refine AJ.loud1 (i := 3) (by kernel_rfl) (by kernel_rfl) rfl (by kernel_rfl) (by kernel_rfl) rfl rfl rfl rfl rfl rfl (OpS.buildSlice (E := 50) (nV 3 0 sA b9 1 ++ vN sX) rfl (by exact kEvl) (fun w => by kernel_rfl)) ?_ ?_)
        · rintro _ _ ⟨b14, rfl, rfl⟩
          refine ⟨by exact kGives, ?_⟩
          (apply AJ.pur (i := 4); exact rfl; exact rfl; exact rfl; exact rfl; exact rfl; exact rfl; exact rfl; exact rfl; exact rfl; (refine OpP.build (xs := [.const (.int .u8 40), .tmp 14]) (vs := [.int .u8 40, .slice (some ⟨b14, 0, none⟩) 2 2]) (r := .agg (nV 40 0 sE b14 2).toArray) (by exact kEvl) rfl (fun w => by kernel_rfl)))
          (refine AJ.tail (by kernel_rfl) (by kernel_rfl) rfl (by kernel_rfl) (by kernel_rfl) (by kernel_rfl) ?_)
          (apply RL.storeA; exact kEv; exact kEv; exact kTake; exact rfl; exact rfl; exact rfl)
          refine kAutoB ?_
          exact XJ.meet (b3, b14) trivial (by exact kEsub) (by exact kGives)
        · rintro _ _ h; exact h.elim
      · rintro _ _ h; exact h.elim
    · rintro _ _ h; exact h.elim
  rintro ⟨b3, b14⟩ -
  refine kAutoB ?_
  (apply RL.callIs; exact kEv; exact inferInstance; exact kEvl; exact (sample1_spec w0 sX); exact rfl)
  refine kAutoB ?_
  (apply RL.callIs; exact kEv; exact inferInstance; exact kEvl; exact (sample1_spec w0 sX); exact rfl)
  refine kAutoB ?_
  (apply RL.callIs; exact kEv; exact inferInstance; exact kEvl; exact (sample1_spec w0 sI); exact rfl)
  refine RL.bsl (vN sX ++ vN sI) rfl (by exact kEvl) (fun w => by kernel_rfl) rfl (fun b22 => ?_)
  (apply RL.build (r := .agg (nV 6 0 sE b22 2).toArray); exact rfl; exact kEvl; (intro w; kernel_rfl); exact rfl)
  refine RL.bsl (vN sX ++ nV 6 0 sE b22 2) rfl (by exact kEvl) (fun w => by kernel_rfl) rfl (fun b24 => ?_)
  (apply RL.build (r := .agg (nV 40 0 sE b24 2).toArray); exact rfl; exact kEvl; (intro w; kernel_rfl); exact rfl)
  (apply RL.alloc; exact rfl; exact rfl; intro b4)
  (apply RL.storeA; exact kEv; exact kEv; exact kTake; exact rfl; exact rfl; exact rfl)
  refine kAutoB ?_
  refine RL.bsl (nV 40 0 sE b14 2 ++ nV 40 0 sE b24 2) rfl (by exact kEvl) (fun w => by kernel_rfl) rfl (fun b28 => ?_)
  (apply RL.build (r := .agg (nV 47 0 sE b28 2).toArray); exact rfl; exact kEvl; (intro w; kernel_rfl); exact rfl)
  refine RL.bsl (nV 47 0 sE b28 2) rfl (by exact kEvl) (fun w => by kernel_rfl) rfl (fun b30 => ?_)
  (apply RL.build (r := .agg (nV 42 3 sI b30 1).toArray); exact rfl; exact kEvl; (intro w; kernel_rfl); exact rfl)
  (apply RL.alloc; exact rfl; exact rfl; intro b5)
  (apply RL.storeA; exact kEv; exact kEv; exact kTake; exact rfl; exact rfl; exact rfl)
  refine kAutoB ?_
  (apply RL.callIs; exact kEv; exact inferInstance; exact kEvl; exact (sample1_spec w0 sX); exact rfl)
  refine RL.bsl (vN sX) rfl (by exact kEvl) (fun w => by kernel_rfl) rfl (fun b34 => ?_)
  (apply RL.build (r := .agg (nV 45 1 sE b34 1).toArray); exact rfl; exact kEvl; (intro w; kernel_rfl); exact rfl)
  (apply RL.alloc; exact rfl; exact rfl; intro b6)
  (apply RL.storeA; exact kEv; exact kEv; exact kTake; exact rfl; exact rfl; exact rfl)
  refine kAutoB ?_
  refine RL.bsl [.string sX] rfl (by exact kEvl) (fun w => by kernel_rfl) rfl (fun b36 => ?_)
  refine kAutoB ?_
  refine RL.bsl [.string sA, .int .i64 3] rfl (by exact kEvl) (fun w => by kernel_rfl) rfl (fun b38 => ?_)
  refine kAutoB ?_
  refine RL.bsl (nV 42 3 sI b30 1 ++ nV 45 1 sE b34 1) rfl (by exact kEvl) (fun w => by kernel_rfl) rfl (fun b41 => ?_)
  (apply RL.build (r := .agg (nV 47 0 sE b41 2).toArray); exact rfl; exact kEvl; (intro w; kernel_rfl); exact rfl)
  (apply RL.build (r := .agg (([.string sTa, .int .i64 5, .slice (some ⟨b36, 0, none⟩) 1 1, .slice (some ⟨b38, 0, none⟩) 1 1] : List Value) ++ nV 47 0 sE b41 2).toArray); exact rfl; exact kEvl; (intro w; kernel_rfl); exact rfl)
  refine RL.bsl ([.string sTa, .int .i64 5, .slice (some ⟨b36, 0, none⟩) 1 1, .slice (some ⟨b38, 0, none⟩) 1 1] ++ nV 47 0 sE b41 2) rfl (by exact kEvl) (fun w => by kernel_rfl) rfl (fun b44 => ?_)
  (apply RL.build (r := .agg #[.slice none 0 0, .slice (some ⟨b44, 0, none⟩) 1 1]); exact rfl; exact kEvl; (intro w; kernel_rfl); exact rfl)
  (apply RL.storeA; exact kEv; exact kEv; exact kTake; exact rfl; exact rfl; exact rfl)
  refine kAutoB ?_
  refine XJ.retC rfl rfl (HasAt.pt (Takes.here _ _) atAll) rfl [cel b44 52 (([.string sTa, .int .i64 5, .slice (some ⟨b36, 0, none⟩) 1 1, .slice (some ⟨b38, 0, none⟩) 1 1] : List Value) ++ nV 47 0 sE b41 2), cel b41 50 (nV 42 3 sI b30 1 ++ nV 45 1 sE b34 1), cel b38 90 [.string sA, .int .i64 3], cel b36 9 [.string sX], cel b34 50 (vN sX), cel b30 50 (nV 47 0 sE b28 2), cel b28 50 (nV 40 0 sE b14 2 ++ nV 40 0 sE b24 2), cel b24 50 (vN sX ++ nV 6 0 sE b22 2), cel b22 50 (vN sX ++ vN sI), cel b14 50 (nV 3 0 sA b9 1 ++ vN sX), cel b9 50 (vN sI)] (by exact kGives) ⟨_, rfl, ?_⟩
  intro b w h F mm sa
  have hb44 : Base w b44 0 (([.string sTa, .int .i64 5, .slice (some ⟨b36, 0, none⟩) 1 1, .slice (some ⟨b38, 0, none⟩) 1 1] : List Value) ++ nV 47 0 sE b41 2) := cel_base (T := 52) (by exact kTake) mm sa
  have hb41 : Base w b41 0 (nV 42 3 sI b30 1 ++ nV 45 1 sE b34 1) := cel_base (T := 50) (by exact kTake) mm sa
  have hb38 : Base w b38 0 [.string sA, .int .i64 3] := cel_base (T := 90) (by exact kTake) mm sa
  have hb36 : Base w b36 0 [.string sX] := cel_base (T := 9) (by exact kTake) mm sa
  have hb34 : Base w b34 0 (vN sX) := cel_base (T := 50) (by exact kTake) mm sa
  have hb30 : Base w b30 0 (nV 47 0 sE b28 2) := cel_base (T := 50) (by exact kTake) mm sa
  have hb28 : Base w b28 0 (nV 40 0 sE b14 2 ++ nV 40 0 sE b24 2) := cel_base (T := 50) (by exact kTake) mm sa
  have hb24 : Base w b24 0 (vN sX ++ nV 6 0 sE b22 2) := cel_base (T := 50) (by exact kTake) mm sa
  have hb22 : Base w b22 0 (vN sX ++ vN sI) := cel_base (T := 50) (by exact kTake) mm sa
  have hb14 : Base w b14 0 (nV 3 0 sA b9 1 ++ vN sX) := cel_base (T := 50) (by exact kTake) mm sa
  have hb9 : Base w b9 0 (vN sI) := cel_base (T := 50) (by exact kTake) mm sa
  have n1 : NodeR w setN (nV 40 0 sE b14 2) := nodeR_two rfl rfl (nodeR_one rfl (nodeR_var w sI) hb9) (nodeR_var w sX) hb14
  have n2 : NodeR w addN (nV 40 0 sE b24 2) := nodeR_two rfl rfl (nodeR_var w sX) (nodeR_two rfl rfl (nodeR_var w sX) (nodeR_var w sI) hb22) hb24
  have n3 : NodeR w loopN (nV 42 3 sI b30 1) := nodeR_one rfl (nodeR_two rfl rfl n1 n2 hb28) hb30
  have n4 : NodeR w outN (nV 45 1 sE b34 1) := nodeR_one rfl (nodeR_var w sX) hb34
  have n5 : NodeR w (.mk 47 0 sE [loopN, outN]) (nV 47 0 sE b41 2) := nodeR_two rfl rfl n3 n4 hb41
  have hT : TaskR w ⟨sTa, 5, [sX], [⟨sA, 3⟩], .mk 47 0 sE [loopN, outN]⟩ (([.string sTa, .int .i64 5, .slice (some ⟨b36, 0, none⟩) 1 1, .slice (some ⟨b38, 0, none⟩) 1 1] : List Value) ++ nV 47 0 sE b41 2) :=
    ⟨some ⟨b36, 0, none⟩, 1, some ⟨b38, 0, none⟩, 1, nV 47 0 sE b41 2, rfl, Nat.le_refl _, Nat.le_refl _, rowsB_flat (rows := [[.string sX]]) (by simp) (by simpa using hb36), rowsB_flat (rows := [[.string sA, .int .i64 3]]) (by simp) (by simpa using hb38), n5⟩
  refine ⟨none, 0, some ⟨b44, 0, none⟩, 1, rfl, Nat.le_refl _, Nat.le_refl _, fun i r h => by simp [sampleP] at h, ⟨[(([.string sTa, .int .i64 5, .slice (some ⟨b36, 0, none⟩) 1 1, .slice (some ⟨b38, 0, none⟩) 1 1] : List Value) ++ nV 47 0 sE b41 2)], rfl, rowsB_flat (by simp [nV]) (by simpa using hb44), ?_⟩⟩
  intro i m r h1 h2
  rcases i with _ | i
  · simp [sampleP] at h1 h2; subst h1 h2; exact hT
  · simp [sampleP] at h1
end Go.Proofs.YtgmapenlgammfaaGreatDoor
