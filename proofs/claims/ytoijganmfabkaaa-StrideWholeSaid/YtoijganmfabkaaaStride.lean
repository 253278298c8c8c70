/-
  What the functions of package stride (and the reference's) answer, each by a contract: they compute and leave the world alone.
-/
import Derived.Test.YtoijganmfabkaaaFloat
import Derived.Test.YtoijganmfabkaaaRows
import Derived.WalkKit
import Derived.Laws.Cover2
import Derived.Laws.Cover3
import Derived.Laws.FloatArith
import Derived.Laws.ComplexArith
import Derived.WalkLawsBesides
import Derived.Lib.Hide
namespace Go.Proofs.Ytoijganmfabkaaa
open Go.RowKit
set_option linter.unusedSimpArgs false

theorem ret_int {k : IntKind} {a b : Int} (h : a = b) : Ending.returned (.int k a) = .returned (.int k b) := by rw [h]
theorem ret_bool {a b : Bool} (h : a = b) : Ending.returned (.bool a) = .returned (.bool b) := by rw [h]

theorem ret_fl {a b : Int} (h : a = b) : Ending.returned (.float .f64 (floatOfInt .f64 a)) = .returned (.float .f64 (floatOfInt .f64 b)) := by rw [h]

def isW (n : Int) : Bool := decide (1 ≤ n) && decide (n ≤ 16)
def ofW (n : Int) : Int := if isW n = true then 720720 / n else 0

theorem isW_true {n : Int} : isW n = true ↔ 1 ≤ n ∧ n ≤ 16 := by unfold isW; simp
theorem isW_false {n : Int} : isW n = false ↔ ¬ (1 ≤ n ∧ n ≤ 16) := by rw [← isW_true]; simp

theorem is_any (n : Int) (w : World) : Calls Try.prog 8 #[.int .i64 n] w fun e w' => e = .returned (.bool (isW n)) ∧ w = w' := by
  by_cases h1 : 1 ≤ n
  · by_cases h2 : n ≤ 16
    · have : isW n = true := isW_true.2 ⟨h1, h2⟩
      go_enter Try.func8, Try.ntmps8
      go_wp2
      go_ret
      exact ⟨ret_bool (by simp [*]), rfl⟩
    · have : isW n = false := isW_false.2 (by omega)
      go_enter Try.func8, Try.ntmps8
      go_wp2
      go_ret
      exact ⟨ret_bool (by simp [*]), rfl⟩
  · have : isW n = false := isW_false.2 (by omega)
    go_enter Try.func8, Try.ntmps8
    go_wp2
    go_ret
    exact ⟨ret_bool (by simp [*]), rfl⟩

theorem of_any (n : Int) (w : World) : Calls Try.prog 10 #[.int .i64 n] w fun e w' => e = .returned (.int .i64 (ofW n)) ∧ w = w' := by
  by_cases h : isW n = true
  · have hb := isW_true.1 h
    obtain ⟨h1, h2⟩ := hb
    have ho : Hid (ofW n = 720720 / n) := by unfold ofW; rw [if_pos h]; exact Lib.hid rfl
    go_enter Try.func10, Try.ntmps10
    go_wp2_with (go_at_call 8; refine (is_any _ _).mono ?_; rintro e w' ⟨rfl, rfl⟩)
    go_wp2
    go_ret
    exact ⟨ret_int (by rw [ho.out]), rfl⟩
  · have h : isW n = false := by simpa using h
    have ho : Hid (ofW n = 0) := by unfold ofW; rw [h]; exact Lib.hid rfl
    go_enter Try.func10, Try.ntmps10
    go_wp2_with (go_at_call 8; refine (is_any _ _).mono ?_; rintro e w' ⟨rfl, rfl⟩)
    go_wp2
    go_ret
    exact ⟨ret_int (by rw [ho.out]), rfl⟩

theorem ofW_bounds (n : Int) : 0 ≤ ofW n ∧ ofW n ≤ 720720 := by
  unfold ofW
  split
  · rename_i h
    have := isW_true.1 h
    exact ⟨Int.ediv_nonneg (by omega) (by omega), Int.ediv_le_self _ (by omega)⟩
  · omega

theorem ofW_pos {n : Int} (h : isW n = true) : 45045 ≤ ofW n := by
  have hb := isW_true.1 h
  unfold ofW
  rw [if_pos h]
  exact (Int.le_ediv_iff_mul_le (by omega)).2 (by omega)

theorem next_any (p n : Int) (w : World) : Calls Try.prog 14 #[.int .i64 p, .int .i64 n] w fun e w' => e = .returned (.int .i64 (wrap64 (p + ofW n))) ∧ w = w' := by
  go_enter Try.func14, Try.ntmps14
  go_wp2_with (go_at_call 10; refine (of_any _ _).mono ?_; rintro e w' ⟨rfl, rfl⟩)
  go_ret
  exact ⟨ret_int rfl, rfl⟩

theorem isweight_any (n : Int) (w : World) : Calls Try.prog 9 #[.int .i64 n] w fun e w' => e = .returned (.bool (isW n)) ∧ w = w' := by
  by_cases h1 : 1 ≤ n
  · by_cases h2 : n ≤ 16
    · have : isW n = true := isW_true.2 ⟨h1, h2⟩
      go_enter Try.func9, Try.ntmps9
      go_wp2
      go_ret
      exact ⟨ret_bool (by simp [*]), rfl⟩
    · have : isW n = false := isW_false.2 (by omega)
      go_enter Try.func9, Try.ntmps9
      go_wp2
      go_ret
      exact ⟨ret_bool (by simp [*]), rfl⟩
  · have : isW n = false := isW_false.2 (by omega)
    go_enter Try.func9, Try.ntmps9
    go_wp2
    go_ret
    exact ⟨ret_bool (by simp [*]), rfl⟩

theorem rof_any (n : Int) (w : World) : Calls Try.prog 11 #[.int .i64 n] w fun e w' => e = .returned (.int .i64 (ofW n)) ∧ w = w' := by
  by_cases h : isW n = true
  · have hb := isW_true.1 h
    obtain ⟨h1, h2⟩ := hb
    have ho : Hid (ofW n = 720720 / n) := by unfold ofW; rw [if_pos h]; exact Lib.hid rfl
    go_enter Try.func11, Try.ntmps11
    go_wp2_with (go_at_call 9; refine (isweight_any _ _).mono ?_; rintro e w' ⟨rfl, rfl⟩)
    go_wp2
    go_ret
    exact ⟨ret_int (by rw [ho.out]), rfl⟩
  · have h : isW n = false := by simpa using h
    have ho : Hid (ofW n = 0) := by unfold ofW; rw [h]; exact Lib.hid rfl
    go_enter Try.func11, Try.ntmps11
    go_wp2_with (go_at_call 9; refine (isweight_any _ _).mono ?_; rintro e w' ⟨rfl, rfl⟩)
    go_wp2
    go_ret
    exact ⟨ret_int (by rw [ho.out]), rfl⟩

theorem rnext_any (p n : Int) (w : World) : Calls Try.prog 15 #[.int .i64 p, .int .i64 n] w fun e w' => e = .returned (.int .i64 (wrap64 (p + ofW n))) ∧ w = w' := by
  go_enter Try.func15, Try.ntmps15
  go_wp2_with (go_at_call 11; refine (rof_any _ _).mono ?_; rintro e w' ⟨rfl, rfl⟩)
  go_ret
  exact ⟨ret_int rfl, rfl⟩

/-- A pass behind a change of the weight, without wraps. -/
def scaleW (p now a b : Int) : Int := if p ≤ now then p else now + (p - now) * ofW b / ofW a

theorem scale_mid {p now b : Int} (h0 : 0 ≤ now) (h1 : now < p) (h2 : p ≤ 2199023255552) :
    0 ≤ (p - now) * ofW b ∧ (p - now) * ofW b ≤ 2199023255552 * 720720 := by
  have ⟨a1, a2⟩ := ofW_bounds b
  exact ⟨Int.mul_nonneg (by omega) a1, Int.mul_le_mul (by omega) a2 a1 (by omega)⟩

theorem scale_div {x a : Int} (h : isW a = true) (h0 : 0 ≤ x) (h1 : x ≤ 2199023255552 * 720720) : 0 ≤ x / ofW a ∧ x / ofW a ≤ 2199023255552 * 720720 := by
  have := ofW_pos h
  exact ⟨Int.ediv_nonneg h0 (by omega), Int.le_trans (Int.ediv_le_self _ h0) h1⟩

theorem scale_any (p now a b : Int) (w : World) (ha : isW a = true) (h0 : 0 ≤ now) (h2 : p ≤ 2199023255552) (h3 : now ≤ 2199023255552) (h4 : 0 ≤ p) :
    Calls Try.prog 16 #[.int .i64 p, .int .i64 now, .int .i64 a, .int .i64 b] w fun e w' => e = .returned (.int .i64 (scaleW p now a b)) ∧ w = w' := by
  by_cases h : p ≤ now
  · have ho : Hid (scaleW p now a b = p) := by unfold scaleW; rw [if_pos h]; exact Lib.hid rfl
    go_enter Try.func16, Try.ntmps16
    go_wp2
    go_ret
    exact ⟨ret_int (by rw [ho.out]), rfl⟩
  · have ho : Hid (scaleW p now a b = now + (p - now) * ofW b / ofW a) := by unfold scaleW; rw [if_neg h]; exact Lib.hid rfl
    have hp := ofW_pos ha
    have ⟨b1, b2⟩ := ofW_bounds b
    have ⟨a1, a2⟩ := ofW_bounds a
    have ⟨m1, m2⟩ := scale_mid (b := b) h0 (by omega) h2
    have ⟨d1, d2⟩ := scale_div ha m1 m2
    have hz : ¬ ofW a = 0 := by omega
    go_enter Try.func16, Try.ntmps16
    go_wp2_with (go_at_call 10; refine (of_any _ _).mono ?_; rintro e w' ⟨rfl, rfl⟩)
    go_wp2
    go_ret
    exact ⟨ret_int (by rw [ho.out]), rfl⟩

theorem rscale_any (p now a b : Int) (w : World) (ha : isW a = true) (h0 : 0 ≤ now) (h2 : p ≤ 2199023255552) (h3 : now ≤ 2199023255552) (h4 : 0 ≤ p) :
    Calls Try.prog 17 #[.int .i64 p, .int .i64 now, .int .i64 a, .int .i64 b] w fun e w' => e = .returned (.int .i64 (scaleW p now a b)) ∧ w = w' := by
  by_cases h : p ≤ now
  · have ho : Hid (scaleW p now a b = p) := by unfold scaleW; rw [if_pos h]; exact Lib.hid rfl
    go_enter Try.func17, Try.ntmps17
    go_wp2
    go_ret
    exact ⟨ret_int (by rw [ho.out]), rfl⟩
  · have ho : Hid (scaleW p now a b = now + (p - now) * ofW b / ofW a) := by unfold scaleW; rw [if_neg h]; exact Lib.hid rfl
    have hp := ofW_pos ha
    have ⟨b1, b2⟩ := ofW_bounds b
    have ⟨a1, a2⟩ := ofW_bounds a
    have ⟨m1, m2⟩ := scale_mid (b := b) h0 (by omega) h2
    have ⟨d1, d2⟩ := scale_div ha m1 m2
    have hz : ¬ ofW a = 0 := by omega
    go_enter Try.func17, Try.ntmps17
    go_wp2_with (go_at_call 11; refine (rof_any _ _).mono ?_; rintro e w' ⟨rfl, rfl⟩)
    go_wp2
    go_ret
    exact ⟨ret_int (by rw [ho.out]), rfl⟩

/-- Quanta that are counted: from 0 to 2^20. -/
def held (n : Int) : Int := min (max n 0) 1048576
theorem held_bounds (n : Int) : 0 ≤ held n ∧ held n ≤ 1048576 := by unfold held; omega
def wayW (n a : Int) : Int := held n * ofW a
theorem wayW_bounds (n a : Int) : 0 ≤ wayW n a ∧ wayW n a ≤ 1048576 * 720720 := by
  have ⟨a1, a2⟩ := ofW_bounds a
  have ⟨b1, b2⟩ := held_bounds n
  exact ⟨Int.mul_nonneg b1 a1, Int.mul_le_mul b2 a2 a1 (by omega)⟩

theorem way_mul (x a : Int) (h0 : 0 ≤ x) (h1 : x ≤ 1048576) (w : World) :
    (binOp .mul 35 (.float .f64 (floatOfInt .f64 x)) (.float .f64 (floatOfInt .f64 (ofW a)))).run Try.prog w = .ok (.float .f64 (floatOfInt .f64 (x * ofW a))) w := by
  have ⟨a1, a2⟩ := ofW_bounds a
  have c1 : 0 ≤ x * ofW a := Int.mul_nonneg h0 a1
  have c2 : x * ofW a ≤ 1048576 * 720720 := Int.mul_le_mul h1 a2 a1 (by omega)
  exact run_float_arith (P := Try.prog) w .mul 35 .f64 _ _ _ (fl_mul h0 a1 (by omega) (by omega) (by omega))

theorem way_any (n a : Int) (w : World) : Calls Try.prog 18 #[.int .i64 n, .int .i64 a] w fun e w' => e = .returned (.float .f64 (floatOfInt .f64 (wayW n a))) ∧ w = w' := by
  have hh : held n = min (max n 0) 1048576 := rfl
  by_cases h1 : n < 0
  · have hm := way_mul 0 a (by omega) (by omega)
    have ho : Hid (wayW n a = 0 * ofW a) := by unfold wayW; rw [show held n = 0 by omega]; exact Lib.hid rfl
    clear hh
    go_enter Try.func18, Try.ntmps18
    go_wp2_with (go_at_call 10; refine (of_any _ _).mono ?_; rintro e w' ⟨rfl, rfl⟩)
    go_ret
    exact ⟨ret_fl (by rw [ho.out]; try simp), rfl⟩
  · by_cases h2 : 1048576 < n
    · have hm := way_mul 1048576 a (by omega) (by omega)
      have ho : Hid (wayW n a = 1048576 * ofW a) := by unfold wayW; rw [show held n = 1048576 by omega]; exact Lib.hid rfl
      clear hh
      go_enter Try.func18, Try.ntmps18
      go_wp2_with (go_at_call 10; refine (of_any _ _).mono ?_; rintro e w' ⟨rfl, rfl⟩)
      go_ret
      exact ⟨ret_fl (by rw [ho.out]), rfl⟩
    · have hm := way_mul n a (by omega) (by omega)
      have ho : Hid (wayW n a = n * ofW a) := by unfold wayW; rw [show held n = n by omega]; exact Lib.hid rfl
      clear hh
      go_enter Try.func18, Try.ntmps18
      go_wp2_with (go_at_call 10; refine (of_any _ _).mono ?_; rintro e w' ⟨rfl, rfl⟩)
      go_ret
      exact ⟨ret_fl (by rw [ho.out]), rfl⟩

theorem bits_run (b : Nat) (w : World) : (callFunc 21 #[.float .f64 b]).run Try.prog w = .ok (.value (.int .u64 b)) w := by
  rw [run_callFunc_extern Try.func21 (by kernel_rfl) (by kernel_rfl) (by kernel_rfl) (e := Extern.MathFloatBits.float64bits) (by kernel_rfl)]
  rfl

theorem frombits_run (n : Int) (w : World) : (callFunc 20 #[.int .u64 n]).run Try.prog w = .ok (.value (.float .f64 n.toNat)) w := by
  rw [run_callFunc_extern Try.func20 (by kernel_rfl) (by kernel_rfl) (by kernel_rfl) (e := Extern.MathFloatBits.float64frombits) (by kernel_rfl)]
  rfl

theorem abs_bits {n : Int} (h : n.natAbs < 2 ^ 53) : (bits .andNot .u64 ((floatOfInt .f64 n : Nat) : Int) 9223372036854775808).toNat = floatOfInt .f64 (n.natAbs : Int) := by
  have e := u64_andNot_nat (floatOfInt .f64 n) 9223372036854775808 (by have := fl_lt_word (n := n); omega) (by omega)
  rw [show ((9223372036854775808 : Nat) : Int) = 9223372036854775808 from rfl] at e
  rw [e, Int.toNat_natCast, show 18446744073709551615 - 9223372036854775808 = 2 ^ 63 - 1 from rfl, Nat.and_two_pow_sub_one_eq_mod]
  exact fl_abs h

theorem abs_any (n : Int) (w : World) (h : n.natAbs < 2 ^ 53) : Calls Try.prog 19 #[.float .f64 (floatOfInt .f64 n)] w fun e w' => e = .returned (.float .f64 (floatOfInt .f64 (n.natAbs : Int))) ∧ w = w' := by
  have hb := bits_run (floatOfInt .f64 n)
  have hf := frombits_run
  have hx : Hid ((bits .andNot .u64 ((floatOfInt .f64 n : Nat) : Int) 9223372036854775808).toNat = floatOfInt .f64 (n.natAbs : Int)) := Lib.hid (abs_bits h)
  go_enter Try.func19, Try.ntmps19
  go_wp2
  go_ret
  refine ⟨?_, rfl⟩
  show Ending.returned (.float .f64 (bits .andNot .u64 ((floatOfInt .f64 n : Nat) : Int) 9223372036854775808).toNat) = _
  rw [hx.out]

def fairB (n a m b : Int) : Bool := decide (((wayW n a - wayW m b).natAbs : Int) ≤ wayW 1 a + wayW 1 b)

theorem fair_any (n a m b : Int) (w : World) : Calls Try.prog 12 #[.int .i64 n, .int .i64 a, .int .i64 m, .int .i64 b] w fun e w' => e = .returned (.bool (fairB n a m b)) ∧ w = w' := by
  have ⟨a1, a2⟩ := wayW_bounds n a
  have ⟨b1, b2⟩ := wayW_bounds m b
  have ⟨c1, c2⟩ := wayW_bounds 1 a
  have ⟨d1, d2⟩ := wayW_bounds 1 b
  have hs := fun w => run_float_arith (P := Try.prog) w .sub 35 .f64 _ _ _ (fl_sub (a := wayW n a) (b := wayW m b) (by omega) (by omega) (by omega))
  have ha := fun w => run_float_arith (P := Try.prog) w .add 35 .f64 _ _ _ (fl_add (a := wayW 1 a) (b := wayW 1 b) (by omega) (by omega) (by omega))
  have hl := Lib.hid (fl_leq (a := ((wayW n a - wayW m b).natAbs : Int)) (b := wayW 1 a + wayW 1 b) (by omega) (by omega))
  go_enter Try.func12, Try.ntmps12
  go_wp2_with (first | (go_at_call 18; refine (way_any _ _ _).mono ?_; rintro e w' ⟨rfl, rfl⟩) | (go_at_call 19; refine (abs_any _ _ (by omega)).mono ?_; rintro e w' ⟨rfl, rfl⟩))
  go_ret
  exact ⟨ret_bool (by simpa [fairB] using hl.out), rfl⟩

theorem held_cases (n : Int) : (n ≤ 0 ∧ held n = 0) ∨ (1048576 < n ∧ held n = 1048576) ∨ (0 < n ∧ n ≤ 1048576 ∧ held n = n) := by unfold held; omega

theorem rfair_close {n a m b x y : Int} (hx : held n = x) (hy : held m = y) (t : Bool)
    (h : t = (decide (x * ofW a - y * ofW b ≤ ofW a + ofW b) && decide (-(x * ofW a - y * ofW b) ≤ ofW a + ofW b))) : t = fairB n a m b := by
  have e : ∀ a, wayW 1 a = ofW a := fun a => by unfold wayW; rw [show held 1 = 1 by rfl, Int.one_mul]
  rw [h]
  unfold fairB
  rw [e a, e b]
  unfold wayW
  rw [hx, hy, ← Bool.decide_and]
  congr 1
  simp only [eq_iff_iff]
  omega

theorem rfair_any (n a m b : Int) (w : World) : Calls Try.prog 13 #[.int .i64 n, .int .i64 a, .int .i64 m, .int .i64 b] w fun e w' => e = .returned (.bool (fairB n a m b)) ∧ w = w' := by
  have ⟨a1, a2⟩ := wayW_bounds n a
  have ⟨b1, b2⟩ := wayW_bounds m b
  have ⟨c1, c2⟩ := ofW_bounds a
  have ⟨d1, d2⟩ := ofW_bounds b
  unfold wayW at a1 a2 b1 b2
  rcases held_cases n with ⟨h, hx⟩ | ⟨h, hx⟩ | ⟨h, h', hx⟩ <;> rcases held_cases m with ⟨k, hy⟩ | ⟨k, hy⟩ | ⟨k, k', hy⟩ <;>
  ( rw [hx] at a1 a2; rw [hy] at b1 b2
    have HC := Lib.hid (rfair_close (a := a) (b := b) hx hy)
    clear hx hy
    go_enter Try.func13, Try.ntmps13
    go_wp2_with (go_at_call 11; refine (rof_any _ _).mono ?_; rintro e w' ⟨rfl, rfl⟩)
    all_goals go_wp2
    all_goals go_ret
    all_goals refine ⟨ret_bool (HC.out _ ?_), rfl⟩
    all_goals (rw [Bool.eq_iff_iff, Bool.and_eq_true]; simp only [decide_eq_true_eq, true_iff, Bool.false_eq_true, false_iff]; omega) )

/-- The examples that the statements look at first. -/
theorem known_any (w : World) : Calls Try.prog 7 #[] w fun e w' => e = .returned (.bool true) ∧ w = w' := by
  have h1 : isW 16 = true := by decide
  have h2 : isW 17 = false := by decide
  have h3 : ofW 3 = 240240 := by decide
  have h4 : ofW 0 = 0 := by decide
  have h5 : ofW 16 = 45045 := by decide
  have h6 : scaleW 30 10 1 2 = 20 := by decide
  have h7 : scaleW 7 10 1 2 = 7 := by decide
  have h8 : fairB 2 1 4 2 = true := by decide
  have h9 : fairB 9 1 2 2 = false := by decide
  have h0 : isW 1 = true := by decide
  have hw : wrap64 45050 = 45050 := by unfold wrap64; rfl
  go_enter Try.func7, Try.ntmps7
  go_wp2_with (first | (go_at_call 8; refine (is_any _ _).mono ?_; rintro e w' ⟨rfl, rfl⟩) | (go_at_call 10; refine (of_any _ _).mono ?_; rintro e w' ⟨rfl, rfl⟩) | (go_at_call 14; refine (next_any _ _ _).mono ?_; rintro e w' ⟨rfl, rfl⟩) | (go_at_call 16; refine (scale_any _ _ _ _ _ (by decide) (by decide) (by decide) (by decide) (by decide)).mono ?_; rintro e w' ⟨rfl, rfl⟩) | (go_at_call 12; refine (fair_any _ _ _ _ _).mono ?_; rintro e w' ⟨rfl, rfl⟩))
  go_ret
  exact ⟨rfl, rfl⟩

end Go.Proofs.Ytoijganmfabkaaa
