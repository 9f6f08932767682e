import Derived.Test.YtgmapenlgammfaaGreatDoorGC
import Derived.Test.YtgmapenlgammfaaGreatDoorGE
set_option linter.all false
/- The reference's words: its operators are the same. -/
namespace Go.Proofs.YtgmapenlgammfaaGreatDoor
open Go
def I64 (n : Int) : Prop := -9223372036854775808 ≤ n ∧ n ≤ 9223372036854775807
theorem wrap64 {n : Int} (h : I64 n) : IntKind.i64.wrap n = n := by
  unfold I64 at h
  simp only [IntKind.wrap, IntKind.signed, IntKind.bits]
  simp
  split <;> omega
theorem wrap32_id {n : Int} (h : I32 n) : IntKind.i32.wrap n = n := by
  unfold I32 at h
  simp only [IntKind.wrap, IntKind.signed, IntKind.bits]
  simp
  split <;> omega
theorem wrap32_add (n q : Int) : IntKind.i32.wrap (n + 4294967296 * q) = IntKind.i32.wrap n := by
  simp only [IntKind.wrap, IntKind.signed, IntKind.bits]
  simp
theorem wrap32_ex (n : Int) : ∃ q, IntKind.i32.wrap n = n + 4294967296 * q := by
  simp only [IntKind.wrap, IntKind.signed, IntKind.bits]
  simp
  split
  · exact ⟨-(n / 4294967296) - 1, by omega⟩
  · exact ⟨-(n / 4294967296), by omega⟩
theorem tmod_ex (n : Int) : ∃ q, n.tmod 4294967296 = n + 4294967296 * q ∧ -4294967296 < n.tmod 4294967296 ∧ n.tmod 4294967296 < 4294967296 := by
  have h := Int.tmod_def n 4294967296
  refine ⟨-(n.tdiv 4294967296), by omega, ?_, ?_⟩
  · rcases Int.le_total 0 n with hx | hx
    · have := Int.tmod_nonneg 4294967296 hx; omega
    · have := Int.tmod_lt_of_pos (-n) (show (0 : Int) < 4294967296 by decide)
      rw [Int.neg_tmod] at this; omega
  · exact Int.tmod_lt_of_pos n (by decide)
theorem Wrap_spec (w0 : World) (n : Int) (hn : I64 n) : Spec Tryz.prog w0 108 #[.int .i64 n] [] (Is (.int .i32 (IntKind.i32.wrap n))) := by
  obtain ⟨q, hq, hl, hu⟩ := tmod_ex n
  refine Spec.enter (args := [_]) Tryz.func108 rfl rfl rfl (fun F => ?_)
  refine kAutoB ?_
  apply RL.pur; (apply OpP.rem; exact kEv; exact kEv; exact (by decide)); exact rfl
  rw [hq] at hl hu ⊢
  refine kAutoB ?_
  cases h1 : decide (n + 4294967296 * q ≥ 2147483648)
  · have h1' := of_decide_eq_false h1
    refine kAutoB ?_
    cases h2 : decide (n + 4294967296 * q < -2147483648)
    · refine kAutoB ?_
      exact XJ.ret1 rfl rfl [] (Gives.refl _) ⟨by rw [wrap32_add], rfl⟩
    · have h2' := of_decide_eq_true h2
      refine kAutoB ?_
      rw [wrap64 (n := n + 4294967296 * q + 4294967296) ⟨by omega, by omega⟩]
      refine XJ.ret1 rfl rfl [] (Gives.refl _) ⟨?_, rfl⟩
      rw [show n + 4294967296 * q + 4294967296 = n + 4294967296 * (q + 1) by omega, wrap32_add]
  · have h1' := of_decide_eq_true h1
    refine kAutoB ?_
    rw [wrap64 (n := n + 4294967296 * q - 4294967296) ⟨by omega, by omega⟩]
    have h2 : decide (n + 4294967296 * q - 4294967296 < -2147483648) = false := decide_eq_false (by omega)
    rw [h2]
    refine kAutoB ?_
    refine XJ.ret1 rfl rfl [] (Gives.refl _) ⟨?_, rfl⟩
    rw [show n + 4294967296 * q - 4294967296 = n + 4294967296 * (q - 1) by omega, wrap32_add]
/-- A bit of a word. -/
def bitZ (x : Int) (i : Nat) : Int := x % 4294967296 / 2 ^ i % 2
theorem bit_spec (w0 : World) (x : Int) (hx : I32 x) (i : Nat) (hi : i ≤ 64) : Spec Tryz.prog w0 158 #[.int .i32 x, .int .i64 (i : Int)] [] (Is (.int .i64 (bitZ x i))) := by
  unfold I32 at hx
  refine Spec.enter (args := [_, _]) Tryz.func158 rfl rfl rfl (fun F => ?_)
  refine kAutoB ?_
  rw [wrap64 (n := x) ⟨by omega, by omega⟩]
  cases h1 : decide (x < 0)
  · have h1' := of_decide_eq_false h1
    refine kAutoB ?_
    refine CJ.loop (σ := Int × Nat) (fun t => 0 ≤ t.1 ∧ t.1 < 4294967296 ∧ t.2 ≤ 64 ∧ t.1 / 2 ^ t.2 % 2 = bitZ x i) (fun t => [(5, .int .i64 t.1), (1, .int .i64 (t.2 : Int))]) (fun _ => F) (fun t => t.2) (x, i) ⟨by simp only; omega, by simp only; omega, hi, by simp only [bitZ]; rw [← show (x : Int) = x % 4294967296 by omega]⟩ (by exact kEsub) (Gives.refl _) ?_
    rintro ⟨n, j⟩ ⟨hn0, hn1, hj, he⟩
    simp only at hn0 hn1 hj he
    refine kAutoB ?_
    cases h2 : decide ((j : Int) > 0)
    · have h2' := of_decide_eq_false h2
      have hj0 : j = 0 := by omega
      subst hj0
      refine kAutoB ?_
      apply RL.pur; (apply OpP.rem; exact kEv; exact kEv; exact (by decide)); exact rfl
      refine kAutoB ?_
      refine XJ.ret1 rfl rfl [] (Gives.refl _) ⟨?_, rfl⟩
      rw [← he, Int.tmod_eq_emod_of_nonneg hn0]
      simp
    · have h2' := of_decide_eq_true h2
      obtain ⟨k, rfl⟩ : ∃ k, j = k + 1 := ⟨j - 1, by omega⟩
      refine kAutoB ?_
      apply RL.pur; (apply OpP.quo; exact kEv; exact kEv; exact (by decide)); exact rfl
      refine kAutoB ?_
      rw [Int.tdiv_eq_ediv_of_nonneg hn0, wrap64 (n := n / 2) ⟨by omega, by omega⟩, wrap64 (n := ((k + 1 : Nat) : Int) - 1) ⟨by omega, by omega⟩, show ((k + 1 : Nat) : Int) - 1 = (k : Int) by omega]
      refine XJ.round (n / 2, k) ⟨by simp only; omega, by simp only; omega, by simp only; omega, ?_⟩ (by simp only; omega) (by exact kEsub) (by exact kGives)
      simp only
      rw [← he, Int.pow_succ', Int.ediv_ediv_of_nonneg (by decide)]
  · have h1' := of_decide_eq_true h1
    refine kAutoB ?_
    rw [wrap64 (n := x + 4294967296) ⟨by omega, by omega⟩]
    refine kAutoB ?_
    refine CJ.loop (σ := Int × Nat) (fun t => 0 ≤ t.1 ∧ t.1 < 4294967296 ∧ t.2 ≤ 64 ∧ t.1 / 2 ^ t.2 % 2 = bitZ x i) (fun t => [(5, .int .i64 t.1), (1, .int .i64 (t.2 : Int))]) (fun _ => F) (fun t => t.2) (x + 4294967296, i) ⟨by simp only; omega, by simp only; omega, hi, by simp only [bitZ]; rw [← show (x + 4294967296 : Int) = x % 4294967296 by omega]⟩ (by exact kEsub) (Gives.refl _) ?_
    rintro ⟨n, j⟩ ⟨hn0, hn1, hj, he⟩
    simp only at hn0 hn1 hj he
    refine kAutoB ?_
    cases h2 : decide ((j : Int) > 0)
    · have h2' := of_decide_eq_false h2
      have hj0 : j = 0 := by omega
      subst hj0
      refine kAutoB ?_
      apply RL.pur; (apply OpP.rem; exact kEv; exact kEv; exact (by decide)); exact rfl
      refine kAutoB ?_
      refine XJ.ret1 rfl rfl [] (Gives.refl _) ⟨?_, rfl⟩
      rw [← he, Int.tmod_eq_emod_of_nonneg hn0]
      simp
    · have h2' := of_decide_eq_true h2
      obtain ⟨k, rfl⟩ : ∃ k, j = k + 1 := ⟨j - 1, by omega⟩
      refine kAutoB ?_
      apply RL.pur; (apply OpP.quo; exact kEv; exact kEv; exact (by decide)); exact rfl
      refine kAutoB ?_
      rw [Int.tdiv_eq_ediv_of_nonneg hn0, wrap64 (n := n / 2) ⟨by omega, by omega⟩, wrap64 (n := ((k + 1 : Nat) : Int) - 1) ⟨by omega, by omega⟩, show ((k + 1 : Nat) : Int) - 1 = (k : Int) by omega]
      refine XJ.round (n / 2, k) ⟨by simp only; omega, by simp only; omega, by simp only; omega, ?_⟩ (by simp only; omega) (by exact kEsub) (by exact kGives)
      simp only
      rw [← he, Int.pow_succ', Int.ediv_ediv_of_nonneg (by decide)]
/-! ### words as bit strings -/
def bv (x : Int) : BitVec 32 := BitVec.ofInt 32 x
theorem bitZ_bv (x : Int) (i : Nat) : bitZ x i = if (bv x).getLsbD i then 1 else 0 := by
  have h : ((bv x).toNat : Int) = x % 4294967296 := by
    simp only [bv, BitVec.toNat_ofInt]
    omega
  unfold bitZ
  rw [← h]
  simp only [BitVec.getLsbD, Nat.testBit_eq_decide_div_mod_eq]
  have e : ((bv x).toNat : Int) / 2 ^ i % 2 = (((bv x).toNat / 2 ^ i % 2 : Nat) : Int) := by simp
  rw [e]
  split
  · rename_i h; have := of_decide_eq_true h; omega
  · rename_i h; have : ¬ (bv x).toNat / 2 ^ i % 2 = 1 := fun hh => h (decide_eq_true hh); omega
/-- The sum of the first bits. -/
def lowB (b : BitVec 32) (i : Nat) : Nat := b.toNat % 2 ^ i
theorem lowB_succ (b : BitVec 32) (i : Nat) : lowB b (i + 1) = lowB b i + (if b.getLsbD i then 2 ^ i else 0) := by
  unfold lowB
  rw [Nat.mod_pow_succ]
  simp only [BitVec.getLsbD, Nat.testBit_eq_decide_div_mod_eq]
  split
  · rename_i h; have := of_decide_eq_true h; rw [this, Nat.mul_one]
  · rename_i h
    have h1 : ¬ b.toNat / 2 ^ i % 2 = 1 := fun hh => h (decide_eq_true hh)
    have : b.toNat / 2 ^ i % 2 = 0 := by omega
    rw [this, Nat.mul_zero]
theorem lowB_all (b : BitVec 32) : lowB b 32 = b.toNat := Nat.mod_eq_of_lt b.isLt
theorem lowB_lt (b : BitVec 32) (i : Nat) : lowB b i < 2 ^ i := Nat.mod_lt _ (Nat.two_pow_pos i)
def bitOp (op : Int) (x y : BitVec 32) : BitVec 32 := if op = 11 then x &&& y else if op = 12 then x ||| y else x ^^^ y
def bitW (op x y : Int) : Int := if op = 11 then bitAnd .i32 x y else if op = 12 then bitOr .i32 x y else bitXor .i32 x y
theorem bitW_eq (op x y : Int) : bitW op x y = IntKind.i32.wrap (bitOp op (bv x) (bv y)).toNat := by
  unfold bitW bitOp bitAnd bitOr bitXor bv
  split
  · rfl
  · split <;> rfl
theorem pow_le32 {i : Nat} (h : i ≤ 32) : 2 ^ i ≤ 4294967296 := by
  have := Nat.pow_le_pow_right (n := 2) (by decide) h
  simpa using this
theorem bits_spec (w0 : World) (op x y : Int) (ho : op = 11 ∨ op = 12 ∨ op = 13) (hx : I32 x) (hy : I32 y) : Spec Tryz.prog w0 110 #[.int .u8 op, .int .i32 x, .int .i32 y] [] (Is (.int .i32 (bitW op x y))) := by
  rw [bitW_eq]
  generalize hB : bitOp op (bv x) (bv y) = B
  refine Spec.enter (args := [_, _, _]) Tryz.func110 rfl rfl rfl (fun F => ?_)
  refine kAutoB ?_
  refine CJ.loop (σ := Nat) (fun i => i ≤ 32) (fun i => [(9, .int .i64 (i : Int)), (8, .int .i64 ((2 ^ i : Nat) : Int)), (7, .int .i64 (lowB B i : Int)), (2, .int .i32 y), (1, .int .i32 x), (0, .int .u8 op)]) (fun _ => F) (fun i => 32 - i) 0 (by omega) (by simp only [show lowB B 0 = 0 from Nat.mod_one _]; exact kEsub) (Gives.refl _) ?_
  intro i hi
  refine kAutoB ?_
  cases h1 : decide ((i : Int) < 32)
  · have h1' := of_decide_eq_false h1
    have : i = 32 := by omega
    subst this
    refine kAutoB ?_
    rw [lowB_all]
    have := B.isLt
    (apply RL.callIs; exact kEv; exact inferInstance; exact kEvl; exact (Wrap_spec w0 (B.toNat : Int) ⟨by omega, by omega⟩); exact rfl)
    refine kAutoB ?_
    exact XJ.ret1 rfl rfl [] (Gives.refl _) ⟨rfl, rfl⟩
  have h1' := of_decide_eq_true h1
  refine kAutoB ?_
  (apply RL.callIs; exact kEv; exact inferInstance; exact kEvl; exact (bit_spec w0 x hx i (by omega)); exact rfl)
  refine kAutoB ?_
  (apply RL.callIs; exact kEv; exact inferInstance; exact kEvl; exact (bit_spec w0 y hy i (by omega)); exact rfl)
  rw [bitZ_bv, bitZ_bv]
  have hs := lowB_succ B i
  have hl := lowB_lt B i
  have hp := pow_le32 hi
  have hp2 : 2 ^ (i + 1) = 2 * 2 ^ i := by rw [Nat.pow_succ']
  have hw1 : IntKind.i64.wrap (2 * ((2 ^ i : Nat) : Int)) = ((2 ^ (i + 1) : Nat) : Int) := by
    rw [hp2, wrap64 ⟨by omega, by omega⟩]
    simp
  have hw2 : IntKind.i64.wrap ((lowB B i : Int) + ((2 ^ i : Nat) : Int)) = ((lowB B i + 2 ^ i : Nat) : Int) := by
    rw [wrap64 ⟨by omega, by omega⟩]
    simp
  have hw3 : IntKind.i64.wrap ((i : Int) + 1) = ((i + 1 : Nat) : Int) := by
    rw [wrap64 ⟨by omega, by omega⟩]
    simp
  obtain ⟨a, ha⟩ : ∃ a, (bv x).getLsbD i = a := ⟨_, rfl⟩
  obtain ⟨b, hb⟩ : ∃ b, (bv y).getLsbD i = b := ⟨_, rfl⟩
  rw [ha, hb]
  rcases ho with rfl | rfl | rfl
  · cases a
    · cases b
      · have hb' : lowB B (i + 1) = lowB B i := by rw [hs, ← hB]; simp [bitOp, ha, hb]
        simp only [Bool.false_eq_true, if_true, if_false]
        refine kAutoB ?_
        rw [hw1, hw3]
        refine XJ.round (i + 1) (by omega) (by omega) (by simp only [hb']; exact kEsub) (by exact kGives)
      · have hb' : lowB B (i + 1) = lowB B i := by rw [hs, ← hB]; simp [bitOp, ha, hb]
        simp only [Bool.false_eq_true, if_true, if_false]
        refine kAutoB ?_
        rw [hw1, hw3]
        refine XJ.round (i + 1) (by omega) (by omega) (by simp only [hb']; exact kEsub) (by exact kGives)
    · cases b
      · have hb' : lowB B (i + 1) = lowB B i := by rw [hs, ← hB]; simp [bitOp, ha, hb]
        simp only [Bool.false_eq_true, if_true, if_false]
        refine kAutoB ?_
        rw [hw1, hw3]
        refine XJ.round (i + 1) (by omega) (by omega) (by simp only [hb']; exact kEsub) (by exact kGives)
      · have hb' : lowB B (i + 1) = lowB B i + 2 ^ i := by rw [hs, ← hB]; simp [bitOp, ha, hb]
        simp only [Bool.false_eq_true, if_true, if_false]
        refine kAutoB ?_
        rw [hw1, hw3, hw2]
        refine XJ.round (i + 1) (by omega) (by omega) (by simp only [hb']; exact kEsub) (by exact kGives)
  · cases a
    · cases b
      · have hb' : lowB B (i + 1) = lowB B i := by rw [hs, ← hB]; simp [bitOp, ha, hb]
        simp only [Bool.false_eq_true, if_true, if_false]
        refine kAutoB ?_
        rw [hw1, hw3]
        refine XJ.round (i + 1) (by omega) (by omega) (by simp only [hb']; exact kEsub) (by exact kGives)
      · have hb' : lowB B (i + 1) = lowB B i + 2 ^ i := by rw [hs, ← hB]; simp [bitOp, ha, hb]
        simp only [Bool.false_eq_true, if_true, if_false]
        refine kAutoB ?_
        rw [hw1, hw3, hw2]
        refine XJ.round (i + 1) (by omega) (by omega) (by simp only [hb']; exact kEsub) (by exact kGives)
    · cases b
      · have hb' : lowB B (i + 1) = lowB B i + 2 ^ i := by rw [hs, ← hB]; simp [bitOp, ha, hb]
        simp only [Bool.false_eq_true, if_true, if_false]
        refine kAutoB ?_
        rw [hw1, hw3, hw2]
        refine XJ.round (i + 1) (by omega) (by omega) (by simp only [hb']; exact kEsub) (by exact kGives)
      · have hb' : lowB B (i + 1) = lowB B i + 2 ^ i := by rw [hs, ← hB]; simp [bitOp, ha, hb]
        simp only [Bool.false_eq_true, if_true, if_false]
        refine kAutoB ?_
        rw [hw1, hw3, hw2]
        refine XJ.round (i + 1) (by omega) (by omega) (by simp only [hb']; exact kEsub) (by exact kGives)
  · cases a
    · cases b
      · have hb' : lowB B (i + 1) = lowB B i := by rw [hs, ← hB]; simp [bitOp, ha, hb]
        simp only [Bool.false_eq_true, if_true, if_false]
        refine kAutoB ?_
        rw [hw1, hw3]
        refine XJ.round (i + 1) (by omega) (by omega) (by simp only [hb']; exact kEsub) (by exact kGives)
      · have hb' : lowB B (i + 1) = lowB B i + 2 ^ i := by rw [hs, ← hB]; simp [bitOp, ha, hb]
        simp only [Bool.false_eq_true, if_true, if_false]
        refine kAutoB ?_
        rw [hw1, hw3, hw2]
        refine XJ.round (i + 1) (by omega) (by omega) (by simp only [hb']; exact kEsub) (by exact kGives)
    · cases b
      · have hb' : lowB B (i + 1) = lowB B i + 2 ^ i := by rw [hs, ← hB]; simp [bitOp, ha, hb]
        simp only [Bool.false_eq_true, if_true, if_false]
        refine kAutoB ?_
        rw [hw1, hw3, hw2]
        refine XJ.round (i + 1) (by omega) (by omega) (by simp only [hb']; exact kEsub) (by exact kGives)
      · have hb' : lowB B (i + 1) = lowB B i := by rw [hs, ← hB]; simp [bitOp, ha, hb]
        simp only [Bool.false_eq_true, if_true, if_false]
        refine kAutoB ?_
        rw [hw1, hw3]
        refine XJ.round (i + 1) (by omega) (by omega) (by simp only [hb']; exact kEsub) (by exact kGives)
theorem rtruth_spec (w0 : World) (b : Bool) : Spec Tryz.prog w0 109 #[.bool b] [] (Is (.int .i32 (truthI b))) := by
  refine Spec.enter (args := [_]) Tryz.func109 rfl rfl rfl (fun F => ?_)
  refine kAutoB ?_
  cases b
  · refine kAutoB ?_
    exact XJ.ret1 rfl rfl [] (Gives.refl _) ⟨rfl, rfl⟩
  · refine kAutoB ?_
    exact XJ.ret1 rfl rfl [] (Gives.refl _) ⟨rfl, rfl⟩
theorem rcount_spec (w0 : World) (y : Int) (hy : I32 y) : Spec Tryz.prog w0 112 #[.int .i32 y] [] (Is (.int .i64 (y % 32))) := by
  unfold I32 at hy
  refine Spec.enter (args := [_]) Tryz.func112 rfl rfl rfl (fun F => ?_)
  refine kAutoB ?_
  rw [wrap64 (n := y) ⟨by omega, by omega⟩]
  apply RL.pur; (apply OpP.rem; exact kEv; exact kEv; exact (by decide)); exact rfl
  have hd := Int.tmod_def y 32
  have h0 : 0 ≤ y → 0 ≤ y.tmod 32 := fun h => Int.tmod_nonneg 32 h
  have h1 : y ≤ 0 → y.tmod 32 ≤ 0 := fun h => by
    have := Int.tmod_nonneg 32 (show 0 ≤ -y by omega)
    rw [Int.neg_tmod] at this; omega
  have h2 : y.tmod 32 < 32 := Int.tmod_lt_of_pos y (by decide)
  have h3 : -32 < y.tmod 32 := by
    have := Int.tmod_lt_of_pos (-y) (show (0 : Int) < 32 by decide)
    rw [Int.neg_tmod] at this; omega
  generalize y.tmod 32 = r at *
  generalize y.tdiv 32 = q at *
  refine kAutoB ?_
  cases hr : decide (r < 0)
  · have hr' := of_decide_eq_false hr
    refine kAutoB ?_
    exact XJ.ret1 rfl rfl [] (Gives.refl _) ⟨by rw [show r = y % 32 by omega], rfl⟩
  · have hr' := of_decide_eq_true hr
    refine kAutoB ?_
    rw [wrap64 (n := r + 32) ⟨by omega, by omega⟩]
    exact XJ.ret1 rfl rfl [] (Gives.refl _) ⟨by rw [show r + 32 = y % 32 by omega], rfl⟩
theorem count_eq (y : Int) : (IntKind.u32.wrap y).tmod 32 = y % 32 := by
  have h := u32_nonneg y
  rw [Int.tmod_eq_emod_of_nonneg h]
  simp only [IntKind.wrap, IntKind.signed, IntKind.bits]
  simp
def shiftZ (x : Int) (k : Nat) (left : Bool) : Int := if left then IntKind.i32.wrap (x * 2 ^ k) else x / 2 ^ k
theorem shiftZ_zero {x : Int} (hx : I32 x) (left : Bool) : shiftZ x 0 left = x := by
  unfold shiftZ
  cases left
  · simp
  · simp [wrap32_id hx]
theorem shiftZ_i32 {x : Int} (hx : I32 x) (k : Nat) (left : Bool) : I32 (shiftZ x k left) := by
  unfold shiftZ
  cases left
  · have h : (0 : Int) < 2 ^ k := Int.pow_pos (by decide)
    generalize (2 : Int) ^ k = d at h
    unfold I32 at hx ⊢
    simp only [Bool.false_eq_true, if_false]
    constructor
    · rw [Int.le_ediv_iff_mul_le h]
      omega
    · have h1 : x / d < 2147483648 := by
        rw [Int.ediv_lt_iff_lt_mul h]
        omega
      omega
  · exact I32.wrap _
theorem Shift_spec (w0 : World) (x : Int) (hx : I32 x) (k : Nat) (hk : k ≤ 64) (left : Bool) : Spec Tryz.prog w0 111 #[.int .i32 x, .int .i64 (k : Int), .bool left] [] (Is (.int .i32 (shiftZ x k left))) := by
  refine Spec.enter (args := [_, _, _]) Tryz.func111 rfl rfl rfl (fun F => ?_)
  refine kAutoB ?_
  refine CJ.loop (σ := Nat) (fun i => i ≤ k) (fun i => [(7, .int .i64 (i : Int)), (2, .bool left), (1, .int .i64 (k : Int)), (0, .int .i32 (shiftZ x i left))]) (fun _ => F) (fun i => k - i) 0 (Nat.zero_le _) (by simp only [shiftZ_zero hx]; exact kEsub) (Gives.refl _) ?_
  intro i hi
  refine kAutoB ?_
  cases h1 : decide ((i : Int) < (k : Int))
  · have h1' := of_decide_eq_false h1
    have : i = k := by omega
    subst this
    refine kAutoB ?_
    exact XJ.ret1 rfl rfl [] (Gives.refl _) ⟨rfl, rfl⟩
  have h1' := of_decide_eq_true h1
  have hr := shiftZ_i32 hx i left
  have hr' := hr
  unfold I32 at hr'
  have hw3 : IntKind.i64.wrap ((i : Int) + 1) = ((i + 1 : Nat) : Int) := by
    rw [wrap64 ⟨by omega, by omega⟩]
    simp
  refine kAutoB ?_
  cases left
  · refine kAutoB ?_
    (apply RL.callIs; exact kEv; exact inferInstance; exact kEvl; exact (bit_spec w0 _ hr 0 (by omega)); exact rfl)
    have hb : bitZ (shiftZ x i false) 0 = shiftZ x i false % 2 := by
      unfold bitZ
      omega
    rw [hb]
    refine kAutoB ?_
    rw [wrap64 (n := shiftZ x i false) ⟨by omega, by omega⟩, wrap64 (n := shiftZ x i false - shiftZ x i false % 2) ⟨by omega, by omega⟩]
    apply RL.pur; (apply OpP.quo; exact kEv; exact kEv; exact (by decide)); exact rfl
    have hq : (shiftZ x i false - shiftZ x i false % 2).tdiv 2 = shiftZ x i false / 2 := by
      rw [show shiftZ x i false - shiftZ x i false % 2 = shiftZ x i false / 2 * 2 by omega, Int.mul_tdiv_cancel _ (by decide)]
    rw [hq, wrap64 (n := shiftZ x i false / 2) ⟨by omega, by omega⟩]
    refine kAutoB ?_
    have he : shiftZ x (i + 1) false = shiftZ x i false / 2 := by
      simp only [shiftZ, Bool.false_eq_true, if_false]
      rw [Int.pow_succ, Int.ediv_ediv_of_nonneg (by exact Int.le_of_lt (Int.pow_pos (by decide)))]
    rw [wrap32_id (n := shiftZ x i false / 2) (by unfold I32; omega), hw3]
    exact XJ.round (i + 1) (by omega) (by omega) (by simp only [he]; exact kEsub) (by exact kGives)
  · refine kAutoB ?_
    rw [wrap64 (n := shiftZ x i true) ⟨by omega, by omega⟩, wrap64 (n := 2 * shiftZ x i true) ⟨by omega, by omega⟩]
    (apply RL.callIs; exact kEv; exact inferInstance; exact kEvl; exact (Wrap_spec w0 (2 * shiftZ x i true) ⟨by omega, by omega⟩); exact rfl)
    refine kAutoB ?_
    have he : shiftZ x (i + 1) true = IntKind.i32.wrap (2 * shiftZ x i true) := by
      simp only [shiftZ, if_true]
      obtain ⟨q, hq⟩ := wrap32_ex (x * 2 ^ i)
      rw [hq, show 2 * (x * 2 ^ i + 4294967296 * q) = x * 2 ^ (i + 1) + 4294967296 * (2 * q) by rw [Int.pow_succ, ← Int.mul_assoc]; omega, wrap32_add]
    rw [hw3]
    exact XJ.round (i + 1) (by omega) (by omega) (by simp only [he]; exact kEsub) (by exact kGives)
theorem rUnary_spec (w0 : World) (op x : Int) (hx : I32 x) : Spec Tryz.prog w0 74 #[.int .u8 op, .int .i32 x] [] (Is (.tuple #[.int .i32 (unaryI op x).1, .int .i64 (unaryI op x).2])) := by
  unfold I32 at hx
  refine Spec.enter (args := [_, _]) Tryz.func74 rfl rfl rfl (fun F => ?_)
  refine kAutoB ?_
  (refine CJ.cond (by exact kEv) (fun h4 => ?_) (fun h4 => ?_))
  · obtain rfl : op = 4 := by simpa using h4
    refine kAutoB ?_
    rw [wrap64 (n := x) ⟨by omega, by omega⟩, wrap64 (n := 0 - x) ⟨by omega, by omega⟩]
    (apply RL.callIs; exact kEv; exact inferInstance; exact kEvl; exact (Wrap_spec w0 (0 - x) ⟨by omega, by omega⟩); exact rfl)
    refine kAutoB ?_
    exact XJ.ret2 rfl rfl rfl [] (Gives.refl _) ⟨rfl, rfl⟩
  refine kAutoB ?_
  (refine CJ.cond (by exact kEv) (fun h5 => ?_) (fun h5 => ?_))
  · obtain rfl : op = 5 := by simpa using h5
    refine kAutoB ?_
    (apply RL.callIs; exact kEv; exact inferInstance; exact kEvl; exact rtruth_spec _ _; exact rfl)
    refine kAutoB ?_
    exact XJ.ret2 rfl rfl rfl [] (Gives.refl _) ⟨rfl, rfl⟩
  refine kAutoB ?_
  have e4 : ¬ op = 4 := by simpa using h4
  have e5 : ¬ op = 5 := by simpa using h5
  exact XJ.ret2 rfl rfl rfl [] (Gives.refl _) ⟨by simp [unaryI, e4, e5], rfl⟩
theorem mul_range {a b : Int} (ha : I32 a) (hb : I32 b) : I64 (a * b) := by
  unfold I32 at ha hb
  have h1 : a.natAbs ≤ 2147483648 := by omega
  have h2 : b.natAbs ≤ 2147483648 := by omega
  have h3 := Nat.mul_le_mul h1 h2
  rw [← Int.natAbs_mul] at h3
  unfold I64
  omega
theorem tdiv_range {a : Int} (ha : I32 a) (b : Int) : -2147483648 ≤ a.tdiv b ∧ a.tdiv b ≤ 2147483648 := by
  unfold I32 at ha
  have h1 := Int.natAbs_tdiv a b
  have h2 := Nat.div_le_self a.natAbs b.natAbs
  have h3 : (a.tdiv b).natAbs ≤ a.natAbs := by rw [h1]; exact h2
  omega
theorem apply_bit {op x y : Int} (ho : op = 11 ∨ op = 12 ∨ op = 13) : applyI op x y = (bitW op x y, 0) := by
  rcases ho with rfl | rfl | rfl <;> rfl
theorem rApply_spec (w0 : World) (op x y : Int) (hx : I32 x) (hy : I32 y) : Spec Tryz.prog w0 75 #[.int .u8 op, .int .i32 x, .int .i32 y] [] (Is (.tuple #[.int .i32 (applyI op x y).1, .int .i64 (applyI op x y).2])) := by
  have hx' := hx
  have hy' := hy
  unfold I32 at hx' hy'
  have hmul := mul_range hx hy
  have hwx : IntKind.i64.wrap x = x := wrap64 ⟨by omega, by omega⟩
  have hwy : IntKind.i64.wrap y = y := wrap64 ⟨by omega, by omega⟩
  refine Spec.enter (args := [_, _, _]) Tryz.func75 rfl rfl rfl (fun F => ?_)
  refine kAutoB ?_
  rw [hwx, hwy]
  (refine CJ.cond (by exact kEv) (fun h6 => ?_) (fun h6 => ?_))
  · obtain rfl : op = 6 := by simpa using h6
    refine kAutoB ?_
    rw [wrap64 (n := x + y) ⟨by omega, by omega⟩]
    (apply RL.callIs; exact kEv; exact inferInstance; exact kEvl; exact (Wrap_spec w0 (x + y) ⟨by omega, by omega⟩); exact rfl)
    refine kAutoB ?_
    exact XJ.ret2 rfl rfl rfl [] (Gives.refl _) ⟨rfl, rfl⟩
  refine kAutoB ?_
  (refine CJ.cond (by exact kEv) (fun h7 => ?_) (fun h7 => ?_))
  · obtain rfl : op = 7 := by simpa using h7
    refine kAutoB ?_
    rw [wrap64 (n := x - y) ⟨by omega, by omega⟩]
    (apply RL.callIs; exact kEv; exact inferInstance; exact kEvl; exact (Wrap_spec w0 (x - y) ⟨by omega, by omega⟩); exact rfl)
    refine kAutoB ?_
    exact XJ.ret2 rfl rfl rfl [] (Gives.refl _) ⟨rfl, rfl⟩
  refine kAutoB ?_
  (refine CJ.cond (by exact kEv) (fun h8 => ?_) (fun h8 => ?_))
  · obtain rfl : op = 8 := by simpa using h8
    refine kAutoB ?_
    rw [wrap64 hmul]
    (apply RL.callIs; exact kEv; exact inferInstance; exact kEvl; exact (Wrap_spec w0 (x * y) hmul); exact rfl)
    refine kAutoB ?_
    exact XJ.ret2 rfl rfl rfl [] (Gives.refl _) ⟨rfl, rfl⟩
  refine kAutoB ?_
  have hdiv : ∀ (G : Prop), (op = 9 ∨ op = 10 → G) → (¬ op = 9 → ¬ op = 10 → G) → G := fun G g1 g2 => by
    by_cases h : op = 9
    · exact g1 (.inl h)
    · by_cases h' : op = 10
      · exact g1 (.inr h')
      · exact g2 h h'
  have htd := tdiv_range hx y
  have hq32 := I32.wrap (x.tdiv y)
  have hq' := hq32
  unfold I32 at hq'
  have hqm := mul_range hq32 hy
  have hmod : y ≠ 0 → IntKind.i64.wrap (x - IntKind.i32.wrap (x.tdiv y) * y) = x - IntKind.i32.wrap (x.tdiv y) * y ∧ I64 (x - IntKind.i32.wrap (x.tdiv y) * y) ∧ IntKind.i32.wrap (x - IntKind.i32.wrap (x.tdiv y) * y) = x.tmod y := by
    intro h0
    have hb : I64 (x - IntKind.i32.wrap (x.tdiv y) * y) := by
      have h1 : (IntKind.i32.wrap (x.tdiv y)).natAbs ≤ 2147483648 := by omega
      have h2 : y.natAbs ≤ 2147483648 := by omega
      have h3 := Nat.mul_le_mul h1 h2
      rw [← Int.natAbs_mul] at h3
      unfold I64
      omega
    refine ⟨wrap64 hb, hb, ?_⟩
    obtain ⟨k, hk⟩ := wrap32_ex (x.tdiv y)
    have hd := Int.tmod_def x y
    have e : x - IntKind.i32.wrap (x.tdiv y) * y = x.tmod y + 4294967296 * (-(k * y)) := by
      rw [hk, hd, Int.add_mul, Int.mul_assoc, Int.mul_comm y (x.tdiv y)]
      omega
    rw [e, wrap32_add, wrap32_id (tmod_range hx y)]
  (refine CJ.cond (by exact kEv) (fun h9 => ?_) (fun h9 => ?_))
  · obtain rfl : op = 9 := by simpa using h9
    refine kAutoB ?_
    (refine CJ.cond (by exact kEv) (fun hz => ?_) (fun hz => ?_))
    · obtain rfl : y = 0 := by simpa using hz
      refine kAutoB ?_
      exact XJ.ret2 rfl rfl rfl [] (Gives.refl _) ⟨rfl, rfl⟩
    · have hz' : ¬ y = 0 := by simpa using hz
      refine kAutoB ?_
      apply RL.pur; (apply OpP.quo; exact kEv; exact kEv; exact hz'); exact rfl
      rw [wrap64 (n := x.tdiv y) ⟨by omega, by omega⟩]
      (apply RL.callIs; exact kEv; exact inferInstance; exact kEvl; exact (Wrap_spec w0 (x.tdiv y) ⟨by omega, by omega⟩); exact rfl)
      refine kAutoB ?_
      exact XJ.ret2 rfl rfl rfl [] (Gives.refl _) ⟨by simp [applyI, hz'], rfl⟩
  refine kAutoB ?_
  (refine CJ.cond (by exact kEv) (fun h10 => ?_) (fun h10 => ?_))
  · obtain rfl : op = 10 := by simpa using h10
    refine kAutoB ?_
    (refine CJ.cond (by exact kEv) (fun hz => ?_) (fun hz => ?_))
    · obtain rfl : y = 0 := by simpa using hz
      refine kAutoB ?_
      exact XJ.ret2 rfl rfl rfl [] (Gives.refl _) ⟨rfl, rfl⟩
    · have hz' : ¬ y = 0 := by simpa using hz
      obtain ⟨m1, m2, m3⟩ := hmod hz'
      refine kAutoB ?_
      apply RL.pur; (apply OpP.quo; exact kEv; exact kEv; exact hz'); exact rfl
      rw [wrap64 (n := x.tdiv y) ⟨by omega, by omega⟩]
      (apply RL.callIs; exact kEv; exact inferInstance; exact kEvl; exact (Wrap_spec w0 (x.tdiv y) ⟨by omega, by omega⟩); exact rfl)
      refine kAutoB ?_
      rw [wrap64 (n := IntKind.i32.wrap (x.tdiv y)) ⟨by omega, by omega⟩, wrap64 hqm, m1]
      (apply RL.callIs; exact kEv; exact inferInstance; exact kEvl; exact (Wrap_spec w0 _ m2); exact rfl)
      rw [m3]
      refine kAutoB ?_
      exact XJ.ret2 rfl rfl rfl [] (Gives.refl _) ⟨by simp [applyI, hz'], rfl⟩
  refine kAutoB ?_
  (refine CJ.cond (by exact kEv) (fun h11 => ?_) (fun h11 => ?_))
  · obtain rfl : op = 11 := by simpa using h11
    refine kAutoB ?_
    (apply RL.callIs; exact kEv; exact inferInstance; exact kEvl; exact (bits_spec w0 11 x y (by decide) hx hy); exact rfl)
    refine kAutoB ?_
    exact XJ.ret2 rfl rfl rfl [] (Gives.refl _) ⟨rfl, rfl⟩
  refine kAutoB ?_
  (refine CJ.cond (by exact kEv) (fun h12 => ?_) (fun h12 => ?_))
  · obtain rfl : op = 12 := by simpa using h12
    refine kAutoB ?_
    (apply RL.callIs; exact kEv; exact inferInstance; exact kEvl; exact (bits_spec w0 12 x y (by decide) hx hy); exact rfl)
    refine kAutoB ?_
    exact XJ.ret2 rfl rfl rfl [] (Gives.refl _) ⟨rfl, rfl⟩
  refine kAutoB ?_
  (refine CJ.cond (by exact kEv) (fun h13 => ?_) (fun h13 => ?_))
  · obtain rfl : op = 13 := by simpa using h13
    refine kAutoB ?_
    (apply RL.callIs; exact kEv; exact inferInstance; exact kEvl; exact (bits_spec w0 13 x y (by decide) hx hy); exact rfl)
    refine kAutoB ?_
    exact XJ.ret2 rfl rfl rfl [] (Gives.refl _) ⟨rfl, rfl⟩
  refine kAutoB ?_
  obtain ⟨k, hk⟩ : ∃ k : Nat, y % 32 = (k : Int) := ⟨(y % 32).toNat, by omega⟩
  have hk32 : k ≤ 31 := by omega
  (refine CJ.cond (by exact kEv) (fun h14 => ?_) (fun h14 => ?_))
  · obtain rfl : op = 14 := by simpa using h14
    refine kAutoB ?_
    (apply RL.callIs; exact kEv; exact inferInstance; exact kEvl; exact (rcount_spec w0 y hy); exact rfl)
    rw [hk]
    refine kAutoB ?_
    (apply RL.callIs; exact kEv; exact inferInstance; exact kEvl; exact (Shift_spec w0 x hx k (by omega) true); exact rfl)
    refine kAutoB ?_
    refine XJ.ret2 rfl rfl rfl [] (Gives.refl _) ⟨?_, rfl⟩
    have e : applyI 14 x y = (shiftZ x k true, 0) := by
      simp only [applyI, shlI, shrI, count_eq, hk, shiftZ, Int.toNat_natCast]
      rw [show min k IntKind.i32.bits = k by simp only [IntKind.bits]; omega]
      simp
    rw [e]
  refine kAutoB ?_
  (refine CJ.cond (by exact kEv) (fun h15 => ?_) (fun h15 => ?_))
  · obtain rfl : op = 15 := by simpa using h15
    refine kAutoB ?_
    (apply RL.callIs; exact kEv; exact inferInstance; exact kEvl; exact (rcount_spec w0 y hy); exact rfl)
    rw [hk]
    refine kAutoB ?_
    (apply RL.callIs; exact kEv; exact inferInstance; exact kEvl; exact (Shift_spec w0 x hx k (by omega) false); exact rfl)
    refine kAutoB ?_
    refine XJ.ret2 rfl rfl rfl [] (Gives.refl _) ⟨?_, rfl⟩
    have e : applyI 15 x y = (shiftZ x k false, 0) := by
      simp only [applyI, shlI, shrI, count_eq, hk, shiftZ, Int.toNat_natCast]
      rw [show min k IntKind.i32.bits = k by simp only [IntKind.bits]; omega]
      simp [Int.fdiv_eq_ediv_of_nonneg _ (Int.le_of_lt (Int.pow_pos (show (0 : Int) < 2 by decide)))]
    rw [e]
  refine kAutoB ?_
  (refine CJ.cond (by exact kEv) (fun h16 => ?_) (fun h16 => ?_))
  · obtain rfl : op = 16 := by simpa using h16
    refine kAutoB ?_
    (apply RL.callIs; exact kEv; exact inferInstance; exact kEvl; exact rtruth_spec _ _; exact rfl)
    refine kAutoB ?_
    exact XJ.ret2 rfl rfl rfl [] (Gives.refl _) ⟨rfl, rfl⟩
  refine kAutoB ?_
  (refine CJ.cond (by exact kEv) (fun h17 => ?_) (fun h17 => ?_))
  · obtain rfl : op = 17 := by simpa using h17
    refine kAutoB ?_
    (apply RL.callIs; exact kEv; exact inferInstance; exact kEvl; exact rtruth_spec _ _; exact rfl)
    refine kAutoB ?_
    exact XJ.ret2 rfl rfl rfl [] (Gives.refl _) ⟨rfl, rfl⟩
  refine kAutoB ?_
  (refine CJ.cond (by exact kEv) (fun h18 => ?_) (fun h18 => ?_))
  · obtain rfl : op = 18 := by simpa using h18
    refine kAutoB ?_
    (apply RL.callIs; exact kEv; exact inferInstance; exact kEvl; exact rtruth_spec _ _; exact rfl)
    refine kAutoB ?_
    exact XJ.ret2 rfl rfl rfl [] (Gives.refl _) ⟨rfl, rfl⟩
  refine kAutoB ?_
  (refine CJ.cond (by exact kEv) (fun h19 => ?_) (fun h19 => ?_))
  · obtain rfl : op = 19 := by simpa using h19
    refine kAutoB ?_
    (apply RL.callIs; exact kEv; exact inferInstance; exact kEvl; exact rtruth_spec _ _; exact rfl)
    refine kAutoB ?_
    exact XJ.ret2 rfl rfl rfl [] (Gives.refl _) ⟨rfl, rfl⟩
  refine kAutoB ?_
  (refine CJ.cond (by exact kEv) (fun h20 => ?_) (fun h20 => ?_))
  · obtain rfl : op = 20 := by simpa using h20
    refine kAutoB ?_
    (apply RL.callIs; exact kEv; exact inferInstance; exact kEvl; exact rtruth_spec _ _; exact rfl)
    refine kAutoB ?_
    exact XJ.ret2 rfl rfl rfl [] (Gives.refl _) ⟨rfl, rfl⟩
  refine kAutoB ?_
  (refine CJ.cond (by exact kEv) (fun h21 => ?_) (fun h21 => ?_))
  · obtain rfl : op = 21 := by simpa using h21
    refine kAutoB ?_
    (apply RL.callIs; exact kEv; exact inferInstance; exact kEvl; exact rtruth_spec _ _; exact rfl)
    refine kAutoB ?_
    exact XJ.ret2 rfl rfl rfl [] (Gives.refl _) ⟨rfl, rfl⟩
  refine kAutoB ?_
  (refine CJ.cond (by exact kEv) (fun h22 => ?_) (fun h22 => ?_))
  · obtain rfl : op = 22 := by simpa using h22
    cases hxz : (x != 0)
    · have e : applyI 22 x y = (truthI (false), 0) := by simp [applyI, cmpI, hxz]
      rw [e]
      refine kAutoB ?_
      rw [hxz]
      refine kAutoB ?_
      (apply RL.callIs; exact kEv; exact inferInstance; exact kEvl; exact rtruth_spec _ _; exact rfl)
      refine kAutoB ?_
      exact XJ.ret2 rfl rfl rfl [] (Gives.refl _) ⟨rfl, rfl⟩
    · have e : applyI 22 x y = (truthI (y != 0), 0) := by simp [applyI, cmpI, hxz]
      rw [e]
      refine kAutoB ?_
      rw [hxz]
      refine kAutoB ?_
      (apply RL.callIs; exact kEv; exact inferInstance; exact kEvl; exact rtruth_spec _ _; exact rfl)
      refine kAutoB ?_
      exact XJ.ret2 rfl rfl rfl [] (Gives.refl _) ⟨rfl, rfl⟩
  refine kAutoB ?_
  (refine CJ.cond (by exact kEv) (fun h23 => ?_) (fun h23 => ?_))
  · obtain rfl : op = 23 := by simpa using h23
    cases hxz : (x != 0)
    · have e : applyI 23 x y = (truthI (y != 0), 0) := by simp [applyI, cmpI, hxz]
      rw [e]
      refine kAutoB ?_
      rw [hxz]
      refine kAutoB ?_
      (apply RL.callIs; exact kEv; exact inferInstance; exact kEvl; exact rtruth_spec _ _; exact rfl)
      refine kAutoB ?_
      exact XJ.ret2 rfl rfl rfl [] (Gives.refl _) ⟨rfl, rfl⟩
    · have e : applyI 23 x y = (truthI (true), 0) := by simp [applyI, cmpI, hxz]
      rw [e]
      refine kAutoB ?_
      rw [hxz]
      refine kAutoB ?_
      (apply RL.callIs; exact kEv; exact inferInstance; exact kEvl; exact rtruth_spec _ _; exact rfl)
      refine kAutoB ?_
      exact XJ.ret2 rfl rfl rfl [] (Gives.refl _) ⟨rfl, rfl⟩
  refine kAutoB ?_
  have e6 : ¬ op = 6 := by simpa using h6
  have e7 : ¬ op = 7 := by simpa using h7
  have e8 : ¬ op = 8 := by simpa using h8
  have e9 : ¬ op = 9 := by simpa using h9
  have e10 : ¬ op = 10 := by simpa using h10
  have e11 : ¬ op = 11 := by simpa using h11
  have e12 : ¬ op = 12 := by simpa using h12
  have e13 : ¬ op = 13 := by simpa using h13
  have e14 : ¬ op = 14 := by simpa using h14
  have e15 : ¬ op = 15 := by simpa using h15
  have e16 : ¬ op = 16 := by simpa using h16
  have e17 : ¬ op = 17 := by simpa using h17
  have e18 : ¬ op = 18 := by simpa using h18
  have e19 : ¬ op = 19 := by simpa using h19
  have e20 : ¬ op = 20 := by simpa using h20
  have e21 : ¬ op = 21 := by simpa using h21
  have e22 : ¬ op = 22 := by simpa using h22
  have e23 : ¬ op = 23 := by simpa using h23
  exact XJ.ret2 rfl rfl rfl [] (Gives.refl _) ⟨by simp [applyI, cmpI, e6, e7, e8, e9, e10, e11, e12, e13, e14, e15, e16, e17, e18, e19, e20, e21, e22, e23], rfl⟩
end Go.Proofs.YtgmapenlgammfaaGreatDoor

/- The reference's expressions: Find and Expr over cells. -/
namespace Go.Proofs.YtgmapenlgammfaaGreatDoor
open Go
section
attribute [local semireducible] OpP Ev
theorem run_eql_bool {P : Program} {t : TypeId} {a b : Bool} (h : P.underlying t = some .bool) (w : World) : (Op.equal t (.bool a) (.bool b)).run P w = .ok (a == b) w := by
  have he : (Op.equalIn (9999 + 1) t (.bool a) (.bool b)).run P w = .ok (a == b) w := by
    unfold Op.equalIn
    simp only [Sem.run_bind, run_und h, Result.andThen_ok, Sem.run_pure]
  exact he
theorem OpP.beql {P : Program} {w0 : World} {L : Env} {M : List HProp} {dd : Option Tmp} {T : TypeId} {p : String} {af : Array Edge} {gg : Option (Nat × Bool)} {t u : TypeId} {x y : Operand} {a b : Bool} (h : P.underlying t = some .bool)
    (hx : Ev L x (.bool a)) (hy : Ev L y (.bool b)) : OpP P w0 L M ⟨dd, .binOp .eql t x y u, T, p, af, gg⟩ (.bool (a == b)) := fun n ac w hh s _ _ => by
  have hg : (eqGuard .eql t x y (.bool a) (.bool b)).run P w = .ok () w := by
    unfold eqGuard; rfl
  have hb : (binOp .eql t (.bool a) (.bool b)).run P w = .ok (.bool (a == b)) w := by
    show (do pure (Value.bool (← Op.equal t (.bool a) (.bool b))) : Sem Value).run P w = _
    simp only [Sem.run_bind, run_eql_bool h, Result.andThen_ok, Sem.run_pure]
  simp only [Go.execOp, hx n ac s, hy n ac s, Sem.run_bind, hg, hb, Result.andThen_ok, Sem.run_pure]
end
theorem Base.at' {w : World} {b o : Nat} {vs : List Value} (h : Base w b o vs) (i r : Nat) {v : Value} (e : vs[i]? = some v) (hr : o + i = r) : Base w b r [v] := by subst hr; exact h.one i e
/-- A variable or an array with its elements. -/
structure RC where
  name : ByteArray
  arr : Bool
  l : List Int
def rc0 : RC := ⟨⟨#[]⟩, false, []⟩
def rcRow (c : RC) (u : Value) : List Value := [.string c.name, .bool c.arr, u]
/-- Cells in the base. -/
def CellsR (w : World) (v : Value) (cells : List RC) : Prop := ∃ A cp us, v = .slice A cells.length cp ∧ cells.length ≤ cp ∧ us.length = cells.length ∧ RowsB w 3 A (List.zipWith rcRow cells us) ∧ ∀ (i : Nat) c u, cells[i]? = some c → us[i]? = some u → IntsR w u c.l
theorem CellsR.at_ {w : World} {v : Value} {cells : List RC} (h : CellsR w v cells) : ∃ A cp, v = .slice A cells.length cp ∧ cells.length ≤ cp ∧ ∀ i (hi : i < cells.length), ∃ b o u, A = some ⟨b, o, none⟩ ∧ Base w b (o + i * 3) (rcRow (cells[i]'hi) u) ∧ IntsR w u (cells[i]'hi).l := by
  obtain ⟨A, cp, us, rfl, hc, hl, hr, hin⟩ := h
  refine ⟨A, cp, rfl, hc, fun i hi => ?_⟩
  have hi2 : i < us.length := by omega
  obtain ⟨b, o, e, _, hb⟩ := hr.at_ i (by simp; omega)
  simp only [List.getElem_zipWith] at hb
  exact ⟨b, o, us[i], e, hb, hin i _ _ (List.getElem?_eq_getElem hi) (List.getElem?_eq_getElem hi2)⟩
/-- The last cell of that name and kind below j. -/
def findD (cells : List RC) (nm : ByteArray) (arr : Bool) : Nat → Int
  | 0 => -1
  | j + 1 => if (cells.getD j rc0).name = nm ∧ (cells.getD j rc0).arr = arr then (j : Int) else findD cells nm arr j
theorem findD_range (cells : List RC) (nm : ByteArray) (arr : Bool) : ∀ j, -1 ≤ findD cells nm arr j ∧ findD cells nm arr j < j ∧ (0 ≤ findD cells nm arr j → (cells.getD (findD cells nm arr j).toNat rc0).name = nm ∧ (cells.getD (findD cells nm arr j).toNat rc0).arr = arr)
  | 0 => ⟨by simp [findD], by simp [findD], by simp [findD]⟩
  | j + 1 => by
    have ih := findD_range cells nm arr j
    rw [findD]
    split
    · rename_i h
      exact ⟨by omega, by omega, fun _ => by rw [Int.toNat_natCast]; exact h⟩
    · exact ⟨ih.1, by omega, ih.2.2⟩
theorem Find_spec (w0 : World) (v : Value) (cells : List RC) (hC : CellsR w0 v cells) (hl : cells.length ≤ 1000000) (nm : ByteArray) (arr : Bool) :
    Spec Tryz.prog w0 73 #[v, .string nm, .bool arr] [] (Is (.int .i64 (findD cells nm arr cells.length))) := by
  obtain ⟨A, cp, rfl, -, ha⟩ := hC.at_
  refine Spec.enter (args := [_, _, _]) Tryz.func73 rfl rfl rfl (fun F => ?_)
  refine kAutoB ?_
  rw [wrap64 (n := (cells.length : Int) - 1) ⟨by omega, by omega⟩]
  refine CJ.loop (σ := Nat) (fun j => j ≤ cells.length ∧ findD cells nm arr cells.length = findD cells nm arr j) (fun j => [(7, .int .i64 ((j : Int) - 1)), (2, .bool arr), (1, .string nm), (0, .slice A cells.length cp)]) (fun _ => F) (fun j => j) cells.length ⟨Nat.le_refl _, rfl⟩ (by exact kEsub) (Gives.refl _) ?_
  rintro j ⟨hj, he⟩
  refine kAutoB ?_
  cases h1 : decide ((j : Int) - 1 ≥ 0)
  · have h1' := of_decide_eq_false h1
    have : j = 0 := by omega
    subst this
    refine kAutoB ?_
    exact XJ.ret1 rfl rfl [] (Gives.refl _) ⟨by rw [he]; rfl, rfl⟩
  have h1' := of_decide_eq_true h1
  obtain ⟨k, rfl⟩ : ∃ k, j = k + 1 := ⟨j - 1, by omega⟩
  have hk : ((k + 1 : Nat) : Int) - 1 = (k : Int) := by omega
  have hkl : k < cells.length := by omega
  obtain ⟨b, o, u, rfl, hb, -⟩ := ha k hkl
  have f0 := hb.at' 0 (o + k * 3 + 0) rfl rfl
  have f1 := hb.at' 1 (o + k * 3 + 1) rfl rfl
  rw [hk]
  rw [findD] at he
  have hg : cells.getD k rc0 = cells[k] := by simp [List.getD_eq_getElem?_getD, hkl]
  rw [hg] at he
  refine kAutoB ?_
  apply RL.pur; (apply OpP.indexAddr; exact kEv; exact kEv; exact hkl); exact rfl
  refine kAutoB ?_
  cases h2 : decide (cells[k].name = nm)
  · have h2' := of_decide_eq_false h2
    rw [if_neg (fun h => h2' h.1)] at he
    refine kAutoB ?_
    rw [wrap64 (n := (k : Int) - 1) ⟨by omega, by omega⟩]
    exact XJ.round k ⟨by omega, he⟩ (by omega) (by exact kEsub) (by exact kGives)
  have h2' := of_decide_eq_true h2
  refine kAutoB ?_
  apply RL.pur; (apply OpP.indexAddr; exact kEv; exact kEv; exact hkl); exact rfl
  refine kAutoB ?_
  apply RL.pur; (exact OpP.beql Tryz.underlying4 kEv kEv); exact rfl
  cases h3 : (cells[k].arr == arr)
  · have h3' : ¬ cells[k].arr = arr := fun h => by rw [h] at h3; simp at h3
    rw [if_neg (fun h => h3' h.2)] at he
    refine kAutoB ?_
    rw [wrap64 (n := (k : Int) - 1) ⟨by omega, by omega⟩]
    exact XJ.round k ⟨by omega, he⟩ (by omega) (by exact kEsub) (by exact kGives)
  · have h3' : cells[k].arr = arr := eq_of_beq h3
    rw [if_pos ⟨h2', h3'⟩] at he
    refine kAutoB ?_
    exact XJ.ret1 rfl rfl [] (Gives.refl _) ⟨by rw [he], rfl⟩
/-! ### expressions -/
def cellI (cells : List RC) (nm : ByteArray) (arr : Bool) : Option (List Int) := if findD cells nm arr cells.length < 0 then none else some (cells.getD (findD cells nm arr cells.length).toNat rc0).l
def rhoC (cells : List RC) : ByteArray → Option Int := fun nm => (cellI cells nm false).map fun l => l.getD 0 0
def alphaC (cells : List RC) : ByteArray → Option (List Int) := fun nm => cellI cells nm true
structure CellsOk (cells : List RC) : Prop where
  len : cells.length ≤ 1000000
  each : ∀ c ∈ cells, (∀ x ∈ c.l, I32 x) ∧ c.l.length ≤ 1000000 ∧ (c.arr = false → 0 < c.l.length)
theorem cellI_mem {cells : List RC} {nm : ByteArray} {arr : Bool} {l : List Int} (h : cellI cells nm arr = some l) : ∃ k : Nat, ∃ hk : k < cells.length, findD cells nm arr cells.length = (k : Int) ∧ cells[k].l = l ∧ cells[k].arr = arr := by
  unfold cellI at h
  have hr := findD_range cells nm arr cells.length
  split at h
  · cases h
  · rename_i h0
    injection h with h
    obtain ⟨k, hk⟩ : ∃ k : Nat, findD cells nm arr cells.length = (k : Int) := ⟨(findD cells nm arr cells.length).toNat, by omega⟩
    rw [hk, Int.toNat_natCast] at h
    have hkl : k < cells.length := by omega
    have h3 := (hr.2.2 (by omega)).2
    rw [hk, Int.toNat_natCast] at h3
    have hg : cells.getD k rc0 = cells[k] := by simp [List.getD_eq_getElem?_getD, hkl]
    rw [hg] at h h3
    exact ⟨k, hkl, hk, h, h3⟩
theorem cellI_none {cells : List RC} {nm : ByteArray} {arr : Bool} (h : cellI cells nm arr = none) : findD cells nm arr cells.length = -1 := by
  unfold cellI at h
  have hr := findD_range cells nm arr cells.length
  split at h
  · omega
  · cases h
theorem rhoC_i32 {cells : List RC} (h : CellsOk cells) : ∀ s v, rhoC cells s = some v → I32 v := by
  intro s v e
  unfold rhoC at e
  obtain ⟨l, hl, rfl⟩ := Option.map_eq_some_iff.1 e
  obtain ⟨k, hk, -, rfl, -⟩ := cellI_mem hl
  have := (h.each _ (List.getElem_mem hk)).1
  rw [List.getD_eq_getElem?_getD]
  cases e2 : cells[k].l[0]? with
  | none => exact .zero
  | some x => exact this x (List.mem_of_getElem? e2)
theorem alphaC_i32 {cells : List RC} (h : CellsOk cells) : ∀ s l, alphaC cells s = some l → ∀ x ∈ l, I32 x := by
  intro s l e
  obtain ⟨k, hk, -, rfl, -⟩ := cellI_mem e
  exact (h.each _ (List.getElem_mem hk)).1
/-- A value, or an error number. -/
def resP (r : Except Int Int) : Int × Int := match r with
  | .ok v => (v, 0)
  | .error e => (0, e)
theorem eval_ne0 (ρ : ByteArray → Option Int) (α : ByteArray → Option (List Int)) : ∀ (m : Nat) (n : Node), n.size ≤ m → isB n 1 = true → ∀ e, evalE ρ α n = .error e → e ≠ 0 := by
  intro m
  induction m with
  | zero => intro n h; have := n.size_pos; omega
  | succ m ih =>
    intro n hm hB e he
    obtain ⟨kd, num, nm, kids⟩ := n
    rw [Node.size] at hm
    rw [evalE] at he
    rcases expr_cases hB with ⟨rfl, rfl⟩ | ⟨rfl, rfl⟩ | ⟨rfl, a, rfl, ha⟩ | ⟨hk, a, rfl, ha⟩ | ⟨hk, a, b, rfl, ha, hb⟩
    · simp [evalOp] at he
    · simp only [evalOp] at he
      rw [if_neg (by decide), if_pos trivial] at he
      split at he
      · injection he with he; omega
      · cases he
    · simp only [Node.sizeAll] at hm
      simp only [evalOp, evalL, List.getD_cons_zero] at he
      rw [if_neg (by decide), if_neg (by decide), if_pos trivial] at he
      split at he
      · injection he with he; omega
      · split at he
        · rename_i e' h'; injection he with he; subst he; exact ih a (by omega) ha _ h'
        · split at he
          · cases he
          · injection he with he; omega
    · simp only [Node.sizeAll] at hm
      simp only [evalOp, evalL, List.getD_cons_zero] at he
      rw [if_neg (by omega), if_neg (by omega), if_neg (by omega), if_pos hk] at he
      split at he
      · rename_i e' h'; injection he with he; subst he; exact ih a (by omega) ha _ h'
      · split at he
        · cases he
        · rename_i h'; injection he with he; subst he; exact h'
    · simp only [Node.sizeAll] at hm
      simp only [evalOp, evalL, List.getD_cons_zero, List.getD_cons_succ] at he
      rw [if_neg (by omega), if_neg (by omega), if_neg (by omega), if_neg (by omega)] at he
      split at he
      · rename_i e' h'; injection he with he; subst he; exact ih a (by omega) ha _ h'
      · split at he
        · rename_i e' h'; injection he with he; subst he; exact ih b (by omega) hb _ h'
        · split at he
          · cases he
          · rename_i h'; injection he with he; subst he; exact h'
theorem apply_zero (op x y : Int) : (applyI op x y).2 ≠ 0 → (applyI op x y).1 = 0 := by
  unfold applyI
  repeat' split
  all_goals (intro h; first | rfl | exact absurd rfl h)
theorem rExpr_spec (w0 : World) (v : Value) (cells : List RC) (hC : CellsR w0 v cells) (hO : CellsOk cells) : ∀ (m : Nat) (n : Node) (cs : List Value), n.size ≤ m → n.size < 4611686018427387904 → NodeR w0 n cs → isB n 1 = true →
    Spec Tryz.prog w0 38 #[.agg cs.toArray, v] [] (Is (.tuple #[.int .i32 (resP (evalE (rhoC cells) (alphaC cells) n)).1, .int .i64 (resP (evalE (rhoC cells) (alphaC cells) n)).2])) := by
  intro m
  induction m with
  | zero => intro n cs h; have := n.size_pos; omega
  | succ m ih =>
    intro n cs hm hs hR hB
    have hne := eval_ne0 (rhoC cells) (alphaC cells) n.size n (Nat.le_refl _) hB
    have hFv := fun nm => Find_spec w0 v cells hC hO.len nm false
    have hFa := fun nm => Find_spec w0 v cells hC hO.len nm true
    obtain ⟨A, cap, rfl, hcap, hN⟩ := hR.kids
    obtain ⟨kd, num, nm, kids⟩ := n
    simp only [Node.kind, Node.num, Node.name, Node.kids] at *
    obtain ⟨Ac, cc, rfl, -, hat⟩ := hC.at_
    refine Spec.enter (args := [_, _]) Tryz.func38 rfl rfl rfl (fun F => ?_)
    refine kAutoB ?_
    (apply RL.boxR; exact kEv; exact rfl; intro b2)
    refine kAutoB ?_
    rcases expr_cases hB with ⟨rfl, rfl⟩ | ⟨rfl, rfl⟩ | ⟨rfl, a, rfl, ha⟩ | ⟨hk, a, rfl, ha⟩ | ⟨hk, a, b, rfl, ha, hb⟩
    · refine kAutoB ?_
      exact XJ.ret2 rfl rfl rfl [] (by exact kGives) ⟨rfl, rfl⟩
    · refine kAutoB ?_
      (apply RL.callIs; exact kEv; exact inferInstance; exact kEvl; exact (hFv nm); exact rfl)
      cases hci : cellI cells nm false with
      | none =>
        rw [cellI_none hci]
        refine kAutoB ?_
        exact XJ.ret2 rfl rfl rfl [] (by exact kGives) ⟨by simp [evalE, evalOp, rhoC, hci, resP], rfl⟩
      | some l =>
        obtain ⟨k, hkl, hfk, hl, harr⟩ := cellI_mem hci
        obtain ⟨b, o, u, rfl, hb, A1, c1, rfl, hc1, hr1⟩ := hat k hkl
        have f2 := hb.at' 2 (o + k * 3 + 2) rfl rfl
        have hl0 := (hO.each _ (List.getElem_mem hkl)).2.2 harr
        rw [hl] at hl0 f2 hr1
        obtain ⟨b', o', e', -, hb'⟩ := hr1.at_ 0 (by simpa using hl0)
        subst e'
        simp only [List.getElem_map] at hb'
        rw [hfk]
        refine kAutoB ?_
        rw [show decide ((k : Int) < 0) = false from decide_eq_false (by omega)]
        refine kAutoB ?_
        apply RL.pur; (apply OpP.indexAddr; exact kEv; exact kEv; exact hkl); exact rfl
        refine kAutoB ?_
        (apply RL.pur; exact OpP.indexAddrC 0 kEv rfl hl0 (o' + 0 * 1) rfl; exact rfl)
        apply RL.pur; (apply OpP.load; exact kEv; exact HasAt.base hb'); exact rfl
        refine kAutoB ?_
        exact XJ.ret2 rfl rfl rfl [] (by exact kGives) ⟨by simp [evalE, evalOp, rhoC, hci, resP, List.getD_eq_getElem?_getD, hl0, intV], rfl⟩
    · obtain ⟨b, o, r, e1, hb, hrl, hr⟩ := hN.at_ 0 (by simp)
      subst e1
      simp only [List.getElem_cons_zero] at hr
      have hsz : a.size < (Node.mk 3 num nm [a]).size := Node.size_kid (n := .mk 3 num nm [a]) (by simp [Node.kids])
      have hrec := ih a r (by omega) (by omega) hr ha
      refine kAutoB ?_
      (apply RL.callIs; exact kEv; exact inferInstance; exact kEvl; exact (hFa nm); exact rfl)
      cases hci : cellI cells nm true with
      | none =>
        rw [cellI_none hci]
        refine kAutoB ?_
        exact XJ.ret2 rfl rfl rfl [] (by exact kGives) ⟨by simp [evalE, evalOp, alphaC, hci, resP], rfl⟩
      | some l =>
        obtain ⟨k, hkl, hfk, hl, harr⟩ := cellI_mem hci
        obtain ⟨bc, oc, u, rfl, hbc, A1, c1, rfl, hc1, hr1⟩ := hat k hkl
        have f2 := hbc.at' 2 (oc + k * 3 + 2) rfl rfl
        have hll := (hO.each _ (List.getElem_mem hkl)).2.1
        rw [hl] at f2 hr1 hll
        rw [hfk]
        refine kAutoB ?_
        rw [show decide ((k : Int) < 0) = false from decide_eq_false (by omega)]
        refine kAutoB ?_
        (apply RL.pur; exact OpP.indexAddrC 0 kEv rfl Nat.zero_lt_one (o + 0 * 4) rfl; exact rfl)
        apply RL.pur; (apply OpP.loadA; exact kEv; exact HasAt.base hb; exact hrl); exact rfl
        refine kAutoB ?_
        have hva : evalE (rhoC cells) (alphaC cells) (.mk 3 num nm [a]) = match evalE (rhoC cells) (alphaC cells) a with
          | .error e => .error e
          | .ok i => if idxB i l.length then .ok (l.getD (IntKind.i64.wrap i).toNat 0) else .error 11 := by
          rw [evalE]
          simp only [evalOp, alphaC, hci, evalL, List.getD_cons_zero]
          rfl
        rw [hva]
        cases hev : evalE (rhoC cells) (alphaC cells) a with
        | error e =>
          have hn0 := eval_ne0 _ _ a.size a (Nat.le_refl _) ha e hev
          rw [hev] at hrec
          simp only [resP] at hrec
          (apply RL.callIs; exact kEv; exact inferInstance; exact kEvl; exact hrec; exact rfl)
          refine kAutoB ?_
          rw [show (e != 0) = true by simpa using hn0]
          refine kAutoB ?_
          exact XJ.ret2 rfl rfl rfl [] (by exact kGives) ⟨rfl, rfl⟩
        | ok i =>
          have hri := evalE_range (rhoC_i32 hO) (alphaC_i32 hO) a i hev
          have hri' := hri
          unfold I32 at hri'
          rw [hev] at hrec
          simp only [resP] at hrec
          (apply RL.callIs; exact kEv; exact inferInstance; exact kEvl; exact hrec; exact rfl)
          refine kAutoB ?_
          simp only
          cases hneg : decide (i < 0)
          case true =>
            refine kAutoB ?_
            exact XJ.ret2 rfl rfl rfl [] (by exact kGives) ⟨by simp [idxB, hneg, resP], rfl⟩
          have hneg' := of_decide_eq_false hneg
          have hwi : IntKind.i64.wrap i = i := wrap64 ⟨by omega, by omega⟩
          refine kAutoB ?_
          rw [hwi]
          apply RL.pur; (apply OpP.indexAddr; exact kEv; exact kEv; exact hkl); exact rfl
          refine kAutoB ?_
          cases hge : decide (i ≥ (l.length : Int))
          case true =>
            refine kAutoB ?_
            exact XJ.ret2 rfl rfl rfl [] (by exact kGives) ⟨by simp [idxB, hneg, hwi, hge, resP], rfl⟩
          have hge' := of_decide_eq_false hge
          obtain ⟨j, rfl⟩ : ∃ j : Nat, i = (j : Int) := ⟨i.toNat, by omega⟩
          have hjl : j < l.length := by omega
          obtain ⟨b', o', e', -, hb'⟩ := hr1.at_ j (by simpa using hjl)
          subst e'
          simp only [List.getElem_map] at hb'
          refine kAutoB ?_
          apply RL.pur; (apply OpP.indexAddr; exact kEv; exact kEv; exact hkl); exact rfl
          refine kAutoB ?_
          apply RL.pur; (apply OpP.indexAddr; exact kEv; exact kEv; exact hjl); exact rfl
          apply RL.pur; (apply OpP.load; exact kEv; exact HasAt.base hb'); exact rfl
          refine kAutoB ?_
          refine XJ.ret2 rfl rfl rfl [] (by exact kGives) ⟨?_, rfl⟩
          rw [show idxB (j : Int) l.length = true by unfold idxB; rw [hneg, hwi, hge]; rfl, if_pos rfl]
          simp [resP, List.getD_eq_getElem?_getD, hjl, intV]
    · obtain ⟨b, o, r, e1, hb, hrl, hr⟩ := hN.at_ 0 (by simp)
      subst e1
      simp only [List.getElem_cons_zero] at hr
      have hsz : a.size < (Node.mk kd num nm [a]).size := Node.size_kid (n := .mk kd num nm [a]) (by simp [Node.kids])
      have hrec := ih a r (by omega) (by omega) hr ha
      have hva : evalE (rhoC cells) (alphaC cells) (.mk kd num nm [a]) = match evalE (rhoC cells) (alphaC cells) a with
          | .error e => .error e
          | .ok x => .ok (unaryI kd x).1 := by
        rw [evalE]
        simp only [evalOp, evalL, List.getD_cons_zero]
        rw [if_neg (by omega), if_neg (by omega), if_neg (by omega), if_pos hk]
        cases evalE (rhoC cells) (alphaC cells) a with
        | error e => rfl
        | ok x => simp only; rw [if_pos (by rcases hk with rfl | rfl <;> rfl)]
      rw [hva]
      rcases hk with rfl | rfl
      · refine kAutoB ?_
        (apply RL.pur; exact OpP.indexAddrC 0 kEv rfl Nat.zero_lt_one (o + 0 * 4) rfl; exact rfl)
        apply RL.pur; (apply OpP.loadA; exact kEv; exact HasAt.base hb; exact hrl); exact rfl
        refine kAutoB ?_
        cases hev : evalE (rhoC cells) (alphaC cells) a with
        | error e =>
          have hn0 := eval_ne0 _ _ a.size a (Nat.le_refl _) ha e hev
          rw [hev] at hrec
          simp only [resP] at hrec
          (apply RL.callIs; exact kEv; exact inferInstance; exact kEvl; exact hrec; exact rfl)
          refine kAutoB ?_
          rw [show (e != 0) = true by simpa using hn0]
          refine kAutoB ?_
          exact XJ.ret2 rfl rfl rfl [] (by exact kGives) ⟨rfl, rfl⟩
        | ok x =>
          have hrx := evalE_range (rhoC_i32 hO) (alphaC_i32 hO) a x hev
          rw [hev] at hrec
          simp only [resP] at hrec
          (apply RL.callIs; exact kEv; exact inferInstance; exact kEvl; exact hrec; exact rfl)
          refine kAutoB ?_
          (apply RL.callIs; exact kEv; exact inferInstance; exact kEvl; exact (rUnary_spec w0 _ x hrx); exact rfl)
          refine kAutoB ?_
          exact XJ.ret2 rfl rfl rfl [] (by exact kGives) ⟨rfl, rfl⟩
      · refine kAutoB ?_
        (apply RL.pur; exact OpP.indexAddrC 0 kEv rfl Nat.zero_lt_one (o + 0 * 4) rfl; exact rfl)
        apply RL.pur; (apply OpP.loadA; exact kEv; exact HasAt.base hb; exact hrl); exact rfl
        refine kAutoB ?_
        cases hev : evalE (rhoC cells) (alphaC cells) a with
        | error e =>
          have hn0 := eval_ne0 _ _ a.size a (Nat.le_refl _) ha e hev
          rw [hev] at hrec
          simp only [resP] at hrec
          (apply RL.callIs; exact kEv; exact inferInstance; exact kEvl; exact hrec; exact rfl)
          refine kAutoB ?_
          rw [show (e != 0) = true by simpa using hn0]
          refine kAutoB ?_
          exact XJ.ret2 rfl rfl rfl [] (by exact kGives) ⟨rfl, rfl⟩
        | ok x =>
          have hrx := evalE_range (rhoC_i32 hO) (alphaC_i32 hO) a x hev
          rw [hev] at hrec
          simp only [resP] at hrec
          (apply RL.callIs; exact kEv; exact inferInstance; exact kEvl; exact hrec; exact rfl)
          refine kAutoB ?_
          (apply RL.callIs; exact kEv; exact inferInstance; exact kEvl; exact (rUnary_spec w0 _ x hrx); exact rfl)
          refine kAutoB ?_
          exact XJ.ret2 rfl rfl rfl [] (by exact kGives) ⟨rfl, rfl⟩
    · obtain ⟨b1, o1, r1, e1, hb1, hrl1, hr1⟩ := hN.at_ 0 (by simp)
      obtain ⟨b2, o2, r2, e2, hb2, hrl2, hr2⟩ := hN.at_ 1 (by simp)
      subst e1
      simp only [Option.some.injEq, Addr.mk.injEq, and_true] at e2
      obtain ⟨rfl, rfl⟩ := e2
      simp only [List.getElem_cons_zero, List.getElem_cons_succ] at hr1 hr2
      have hsz1 : a.size < (Node.mk kd num nm [a, b]).size := Node.size_kid (n := .mk kd num nm [a, b]) (by simp [Node.kids])
      have hsz2 : b.size < (Node.mk kd num nm [a, b]).size := Node.size_kid (n := .mk kd num nm [a, b]) (by simp [Node.kids])
      have hrec1 := ih a r1 (by omega) (by omega) hr1 ha
      have hrec2 := ih b r2 (by omega) (by omega) hr2 hb
      have hva : evalE (rhoC cells) (alphaC cells) (.mk kd num nm [a, b]) = match evalE (rhoC cells) (alphaC cells) a with
          | .error e => .error e
          | .ok x => match evalE (rhoC cells) (alphaC cells) b with
            | .error e => .error e
            | .ok y => if (applyI kd x y).2 = 0 then .ok (applyI kd x y).1 else .error (applyI kd x y).2 := by
        rw [evalE]
        simp only [evalOp, evalL, List.getD_cons_zero, List.getD_cons_succ]
        rw [if_neg (by omega), if_neg (by omega), if_neg (by omega), if_neg (by omega)]
        rfl
      rw [hva]
      refine kAutoB ?_
      rw [show (kd == 1) = false by simp; omega]
      refine kAutoB ?_
      rw [show (kd == 2) = false by simp; omega]
      refine kAutoB ?_
      rw [show (kd == 3) = false by simp; omega]
      refine kAutoB ?_
      rw [show (kd == 4) = false by simp; omega]
      refine kAutoB ?_
      rw [show (kd == 5) = false by simp; omega]
      refine kAutoB ?_
      (apply RL.pur; exact OpP.indexAddrC 0 kEv rfl (by simp [Node.kids]) (o1 + 0 * 4) rfl; exact rfl)
      apply RL.pur; (apply OpP.loadA; exact kEv; exact HasAt.base hb1; exact hrl1); exact rfl
      refine kAutoB ?_
      cases hev : evalE (rhoC cells) (alphaC cells) a with
      | error e =>
        have hn0 := eval_ne0 _ _ a.size a (Nat.le_refl _) ha e hev
        rw [hev] at hrec1
        simp only [resP] at hrec1
        (apply RL.callIs; exact kEv; exact inferInstance; exact kEvl; exact hrec1; exact rfl)
        refine kAutoB ?_
        rw [show (e != 0) = true by simpa using hn0]
        refine kAutoB ?_
        exact XJ.ret2 rfl rfl rfl [] (by exact kGives) ⟨rfl, rfl⟩
      | ok x =>
        have hrx := evalE_range (rhoC_i32 hO) (alphaC_i32 hO) a x hev
        rw [hev] at hrec1
        simp only [resP] at hrec1
        (apply RL.callIs; exact kEv; exact inferInstance; exact kEvl; exact hrec1; exact rfl)
        refine kAutoB ?_
        (apply RL.pur; exact OpP.indexAddrC 1 kEv rfl (by simp [Node.kids]) (o1 + 1 * 4) rfl; exact rfl)
        apply RL.pur; (apply OpP.loadA; exact kEv; exact HasAt.base hb2; exact hrl2); exact rfl
        refine kAutoB ?_
        simp only
        cases hev2 : evalE (rhoC cells) (alphaC cells) b with
        | error e =>
          have hn0 := eval_ne0 _ _ b.size b (Nat.le_refl _) hb e hev2
          rw [hev2] at hrec2
          simp only [resP] at hrec2
          (apply RL.callIs; exact kEv; exact inferInstance; exact kEvl; exact hrec2; exact rfl)
          refine kAutoB ?_
          rw [show (e != 0) = true by simpa using hn0]
          refine kAutoB ?_
          exact XJ.ret2 rfl rfl rfl [] (by exact kGives) ⟨rfl, rfl⟩
        | ok y =>
          have hry := evalE_range (rhoC_i32 hO) (alphaC_i32 hO) b y hev2
          rw [hev2] at hrec2
          simp only [resP] at hrec2
          (apply RL.callIs; exact kEv; exact inferInstance; exact kEvl; exact hrec2; exact rfl)
          refine kAutoB ?_
          (apply RL.callIs; exact kEv; exact inferInstance; exact kEvl; exact (rApply_spec w0 kd x y hrx hry); exact rfl)
          refine kAutoB ?_
          refine XJ.ret2 rfl rfl rfl [] (by exact kGives) ⟨?_, rfl⟩
          by_cases hz : (applyI kd x y).2 = 0
          · simp [hz, resP]
          · simp [hz, resP, apply_zero _ _ _ hz]
end Go.Proofs.YtgmapenlgammfaaGreatDoor
