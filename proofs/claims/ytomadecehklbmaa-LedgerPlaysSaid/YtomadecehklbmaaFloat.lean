/-
  Whole numbers below 2^53 in float64 words (the model's Ieee core): the sum, the difference, the product, the order, the absolute value and the way back are those of the whole numbers. Plain arithmetic, no program in sight.
-/
import Derived.Laws.FloatArith
import Derived.Laws.ComplexArith
namespace Go.Proofs.Ytomadecehklbmaa
open Ieee

theorem log2_mul_pow {x : Nat} (k : Nat) (h : x ≠ 0) : (x * 2 ^ k).log2 = x.log2 + k := by
  have hp : 0 < 2 ^ k := Nat.two_pow_pos k
  have h1 : x * 2 ^ k ≠ 0 := Nat.mul_ne_zero h (by omega)
  rw [Nat.log2_eq_iff h1]
  have a := Nat.log2_self_le h
  have b := Nat.lt_log2_self (n := x)
  constructor
  · rw [Nat.pow_add]; exact Nat.mul_le_mul_right _ a
  · rw [show x.log2 + k + 1 = (x.log2 + 1) + k by omega, Nat.pow_add]; exact Nat.mul_lt_mul_of_pos_right b hp

/-- Cutting off digits that are all zero. -/
theorem cut_exact (way : Toward) (neg : Bool) (x d : Nat) : way.cut neg (x * 2 ^ d) d = x := by
  by_cases hx : x = 0
  · subst hx
    have hg : 0 < 1 <<< min d 2 := by rw [Nat.shiftLeft_eq]; exact Nat.mul_pos (by omega) (Nat.two_pow_pos _)
    cases way <;> simp [Toward.cut] <;> omega
  · have hl := log2_mul_pow d hx
    have hm : min d ((x * 2 ^ d).log2 + 2) = d := by omega
    have hp : 0 < 2 ^ d := Nat.two_pow_pos d
    unfold Toward.cut
    rw [hm]
    simp only [Nat.shiftLeft_eq, Nat.one_mul, Nat.mul_mod_left, Nat.mul_div_cancel _ hp]
    cases way <;> simp <;> omega

/-- The word of a magnitude of at most 53 digits that stands at a place of at most nought, the same however it is written. -/
theorem nearest_norm (neg : Bool) (n k : Nat) (h0 : n ≠ 0) (h : n < 2 ^ 53) :
    double.nearest neg (n * 2 ^ k) (-(k : Int)) = double.word neg ((1022 + n.log2) * 2 ^ 52 + n * 2 ^ (52 - n.log2)) := by
  have hp : 0 < 2 ^ k := Nat.two_pow_pos k
  have h1 : n * 2 ^ k ≠ 0 := Nat.mul_ne_zero h0 (by omega)
  have hl := log2_mul_pow k h0
  have hL : n.log2 < 53 := (Nat.log2_lt h0).2 h
  unfold Format.nearest
  rw [if_neg h1]
  have hlast : max (-(k : Int) + ((n * 2 ^ k).log2 : Nat) - (double.fractionBits : Nat)) double.leastPlace = (n.log2 : Int) - 52 := by
    rw [hl]
    show max (-(k : Int) + ((n.log2 + k : Nat) : Int) - ((52 : Nat) : Int)) (-1074) = _
    omega
  rw [hlast]
  dsimp only
  have hlp : (((n.log2 : Int) - 52) - double.leastPlace).toNat = n.log2 + 1022 := by
    show (((n.log2 : Int) - 52) - (-1074)).toNat = _
    omega
  rw [hlp]
  have hkept : Toward.even.cut neg ((n * 2 ^ k) <<< (-(k : Int) - ((n.log2 : Int) - 52)).toNat) (((n.log2 : Int) - 52) - -(k : Int)).toNat = n * 2 ^ (52 - n.log2) := by
    by_cases hk : k + n.log2 ≤ 52
    · have e1 : (-(k : Int) - ((n.log2 : Int) - 52)).toNat = 52 - n.log2 - k := by omega
      have e2 : (((n.log2 : Int) - 52) - -(k : Int)).toNat = 0 := by omega
      rw [e1, e2, Nat.shiftLeft_eq, Nat.mul_assoc, ← Nat.pow_add, show k + (52 - n.log2 - k) = 52 - n.log2 by omega]
      have := cut_exact .even neg (n * 2 ^ (52 - n.log2)) 0
      simpa using this
    · have e1 : (-(k : Int) - ((n.log2 : Int) - 52)).toNat = 0 := by omega
      have e2 : (((n.log2 : Int) - 52) - -(k : Int)).toNat = k + n.log2 - 52 := by omega
      rw [e1, e2, Nat.shiftLeft_eq, Nat.pow_zero, Nat.mul_one, show k = (52 - n.log2) + (k + n.log2 - 52) by omega, Nat.pow_add, ← Nat.mul_assoc]
      have := cut_exact .even neg (n * 2 ^ (52 - n.log2)) (k + n.log2 - 52)
      rw [show 52 - n.log2 + (k + n.log2 - 52) + n.log2 - 52 = k + n.log2 - 52 by omega]
      exact this
  rw [hkept]
  have hlt : n * 2 ^ (52 - n.log2) < 2 * 2 ^ 52 := by
    have := Nat.lt_log2_self (n := n)
    refine Nat.lt_of_lt_of_eq (Nat.mul_lt_mul_of_pos_right this (Nat.two_pow_pos _)) ?_
    rw [← Nat.pow_add, show n.log2 + 1 + (52 - n.log2) = 1 + 52 by omega, Nat.pow_add]
  have hb : double.binade = 2 ^ 52 := by unfold Format.binade; rfl
  have hi : double.infRung = 2047 * 2 ^ 52 := by unfold Format.infRung Format.binade; rfl
  rw [hb, hi]
  generalize n * 2 ^ (52 - n.log2) = X at hlt ⊢
  generalize (2 : Nat) ^ 52 = P at hlt ⊢
  have h3 : (n.log2 + 1022) * P ≤ 1074 * P := Nat.mul_le_mul_right _ (by omega)
  have h4 : (n.log2 + 1022) * P + X ≤ 2047 * P := by omega
  rw [Nat.min_eq_left h4, Nat.add_comm n.log2]

/-- The word of the whole number n. -/
theorem fl_def (n : Int) : floatOfInt .f64 n = double.nearest (n < 0) n.natAbs 0 := rfl

theorem fl_zero : floatOfInt .f64 0 = 0 := by rw [fl_def]; unfold Format.nearest; rfl

theorem fl_word {n : Int} (h0 : n ≠ 0) (h : n.natAbs < 2 ^ 53) :
    floatOfInt .f64 n = double.word (n < 0) ((1022 + n.natAbs.log2) * 2 ^ 52 + n.natAbs * 2 ^ (52 - n.natAbs.log2)) := by
  have := nearest_norm (decide (n < 0)) n.natAbs 0 (by omega) h
  simpa [fl_def] using this

theorem mant_bounds {n : Nat} (h0 : n ≠ 0) (h : n < 2 ^ 53) : 2 ^ 52 ≤ n * 2 ^ (52 - n.log2) ∧ n * 2 ^ (52 - n.log2) < 2 * 2 ^ 52 := by
  have hL : n.log2 < 53 := (Nat.log2_lt h0).2 h
  constructor
  · have := Nat.mul_le_mul_right (2 ^ (52 - n.log2)) (Nat.log2_self_le h0)
    rw [← Nat.pow_add, show n.log2 + (52 - n.log2) = 52 by omega] at this
    exact this
  · have := Nat.lt_log2_self (n := n)
    refine Nat.lt_of_lt_of_eq (Nat.mul_lt_mul_of_pos_right this (Nat.two_pow_pos _)) ?_
    rw [← Nat.pow_add, show n.log2 + 1 + (52 - n.log2) = 1 + 52 by omega, Nat.pow_add]

theorem read_word (neg : Bool) {r : Nat} (e : Nat) (m : Nat) (hr : r = (1022 + e) * 2 ^ 52 + m) (he : e < 53) (h1 : 2 ^ 52 ≤ m) (h2 : m < 2 * 2 ^ 52) :
    double.read (double.word neg r) = .number neg m ((e : Int) - 52) := by
  have hs : double.signWeight = 2048 * 2 ^ 52 := by unfold Format.signWeight; rfl
  have hb : double.binade = 2 ^ 52 := by unfold Format.binade; rfl
  have hi : double.infRung = 2047 * 2 ^ 52 := by unfold Format.infRung Format.binade; rfl
  have hl : double.leastPlace = -1074 := by unfold Format.leastPlace; rfl
  have hp : (0 : Nat) < 2 ^ 52 := Nat.two_pow_pos _
  unfold Format.read Format.word
  rw [hs, hb, hi, hl]
  generalize (2 : Nat) ^ 52 = P at hr h1 h2 hp ⊢
  have h3 : (1022 + e) * P ≤ 1075 * P := Nat.mul_le_mul_right _ (by omega)
  have hrlt : r < 2048 * P := by omega
  have hdiv : r / P = 1023 + e := by
    rw [hr]
    have : (1022 + e) * P + m = (m - P) + (1022 + e + 1) * P := by rw [Nat.succ_mul]; omega
    rw [this, Nat.add_mul_div_right _ _ hp, Nat.div_eq_of_lt (by omega)]; omega
  have hmod : r % P = m - P := by
    rw [hr]
    have : (1022 + e) * P + m = (m - P) + (1022 + e + 1) * P := by rw [Nat.succ_mul]; omega
    rw [this, Nat.add_mul_mod_self_right, Nat.mod_eq_of_lt (by omega)]
  have hge : ¬ r < P := by
    have : 1022 * P ≤ (1022 + e) * P := Nat.mul_le_mul_right _ (by omega)
    omega
  have hli : r < 2047 * P := by omega
  have key : ∀ w : Nat, w / (2048 * P) % 2 = neg.toNat → w % (2048 * P) = r → (
    let neg := w / (2048 * P) % 2 == 1
    let rung := w % (2048 * P)
    if rung < P then Datum.number neg rung (-1074)
    else if rung < 2047 * P then .number neg (P + rung % P) ((-1074) + (rung / P - 1 : Nat))
    else if rung = 2047 * P then .infinity neg
    else .nan neg (rung - 2047 * P)) = .number neg m ((e : Int) - 52) := by
    intro w a b
    dsimp only
    rw [a, b, if_neg hge, if_pos hli, hmod, hdiv]
    have : (neg.toNat == 1) = neg := by cases neg <;> rfl
    rw [this]
    congr 1
    · omega
    · omega
  cases neg
  · refine key _ ?_ ?_
    · simp only [Bool.false_eq_true, if_false, Bool.toNat_false]; rw [Nat.div_eq_of_lt hrlt]
    · simp only [Bool.false_eq_true, if_false]; exact Nat.mod_eq_of_lt hrlt
  · refine key _ ?_ ?_
    · simp only [if_true, Bool.toNat_true]
      rw [Nat.add_div_left _ (by omega), Nat.div_eq_of_lt hrlt]
    · simp only [if_true]; rw [Nat.add_mod_left]; exact Nat.mod_eq_of_lt hrlt

theorem read_fl {n : Int} (h0 : n ≠ 0) (h : n.natAbs < 2 ^ 53) :
    double.read (floatOfInt .f64 n) = .number (n < 0) (n.natAbs * 2 ^ (52 - n.natAbs.log2)) ((n.natAbs.log2 : Int) - 52) := by
  rw [fl_word h0 h]
  have hL : n.natAbs.log2 < 53 := (Nat.log2_lt (by omega)).2 h
  have ⟨a, b⟩ := mant_bounds (n := n.natAbs) (by omega) h
  exact read_word _ _ _ rfl hL a b

theorem read_zero : double.read 0 = .number false 0 (-1074) := by
  unfold Format.read Format.leastPlace; rfl

theorem read_zero_k : ∃ k : Nat, double.read (floatOfInt .f64 0) = .number (decide ((0 : Int) < 0)) ((0 : Int).natAbs * 2 ^ k) (-(k : Int)) := by
  have e : ∀ k : Nat, (k : Int) = 1074 → Datum.number false 0 (-1074) = .number (decide ((0 : Int) < 0)) ((0 : Int).natAbs * 2 ^ k) (-(k : Int)) := fun k hk => by rw [Int.natAbs_zero, Nat.zero_mul, hk]; rfl
  obtain ⟨k, hk⟩ : ∃ k : Nat, (k : Int) = 1074 := ⟨1074, rfl⟩
  exact ⟨k, by rw [fl_zero, read_zero, e k hk]⟩

/-- What a word of a whole number reads as: some digits at a place of at most nought, that are that number. -/
theorem read_int (n : Int) (h : n.natAbs < 2 ^ 53) :
    ∃ k : Nat, double.read (floatOfInt .f64 n) = .number (decide (n < 0)) (n.natAbs * 2 ^ k) (-(k : Int)) := by
  by_cases h0 : n = 0
  · subst h0
    exact read_zero_k
  · have hL : n.natAbs.log2 < 53 := (Nat.log2_lt (by omega)).2 h
    refine ⟨52 - n.natAbs.log2, ?_⟩
    rw [read_fl h0 h, show ((n.natAbs.log2 : Int) - 52) = -((52 - n.natAbs.log2 : Nat) : Int) by omega]

theorem signed_int (n : Int) (k u : Nat) : signed (decide (n < 0)) (n.natAbs * 2 ^ k) u = n * ((2 ^ (k + u) : Nat) : Int) := by
  unfold signed
  rw [Nat.shiftLeft_eq, Nat.mul_assoc, ← Nat.pow_add]
  generalize 2 ^ (k + u) = P
  by_cases h : n < 0
  · have : (n.natAbs : Int) = -n := by omega
    simp only [h, decide_true, if_true, Int.natCast_mul]
    rw [this, Int.neg_mul, Int.neg_neg]
  · have : (n.natAbs : Int) = n := by omega
    simp only [h, decide_false, Bool.false_eq_true, if_false, Int.natCast_mul]
    rw [this]

theorem signed_opp (n : Int) (k u : Nat) : signed (!decide (n < 0)) (n.natAbs * 2 ^ k) u = -n * ((2 ^ (k + u) : Nat) : Int) := by
  unfold signed
  rw [Nat.shiftLeft_eq, Nat.mul_assoc, ← Nat.pow_add]
  generalize 2 ^ (k + u) = P
  by_cases h : n < 0
  · have : (n.natAbs : Int) = -n := by omega
    simp only [h, decide_true, Bool.not_true, Bool.false_eq_true, if_false, Int.natCast_mul]
    rw [this]
  · have : (n.natAbs : Int) = n := by omega
    simp only [h, decide_false, Bool.not_false, if_true, Int.natCast_mul]
    rw [this, Int.neg_mul]

/-- An exact result is written as the whole number's word. -/
theorem write_int (c : Int) (k : Nat) (neg : Bool) (h : c.natAbs < 2 ^ 53) (hn : neg = decide (c < 0)) :
    double.write (.number neg (c.natAbs * 2 ^ k) (-(k : Int))) = floatOfInt .f64 c := by
  subst hn
  show double.nearest _ _ _ = _
  by_cases h0 : c = 0
  · subst h0
    rw [fl_zero, Int.natAbs_zero, Nat.zero_mul]
    unfold Format.nearest Format.word
    simp
  · rw [nearest_norm _ _ k (by omega) h, fl_word h0 h]

theorem natAbs_mul_pow (c : Int) (k : Nat) : (c * ((2 ^ k : Nat) : Int)).natAbs = c.natAbs * 2 ^ k := by
  rw [Int.natAbs_mul]; rfl

theorem mul_pow_neg (c : Int) (k : Nat) : (c * ((2 ^ k : Nat) : Int) < 0) ↔ c < 0 := by
  have hp : (0 : Int) < ((2 ^ k : Nat) : Int) := by have := Nat.two_pow_pos k; omega
  constructor
  · intro h
    by_cases hc : c < 0
    · exact hc
    · have := Int.mul_nonneg (a := c) (b := ((2 ^ k : Nat) : Int)) (by omega) (by omega)
      omega
  · intro h; exact Int.mul_neg_of_neg_of_pos h hp

theorem mul_pow_zero (c : Int) (k : Nat) : (c * ((2 ^ k : Nat) : Int) = 0) ↔ c = 0 := by
  have hp : ((2 ^ k : Nat) : Int) ≠ 0 := by have := Nat.two_pow_pos k; omega
  constructor
  · intro h; rcases Int.mul_eq_zero.1 h with h | h
    · exact h
    · exact absurd h hp
  · intro h; rw [h, Int.zero_mul]

theorem sum_int (s t : Bool) (m n : Nat) (a b : Int) (k l : Nat) (ha : ∀ u, signed s m u = a * ((2 ^ (k + u) : Nat) : Int)) (hb : ∀ u, signed t n u = b * ((2 ^ (l + u) : Nat) : Int))
    (hz : a + b = 0 → (s && t) = false) (hc : (a + b).natAbs < 2 ^ 53) :
    ((Datum.number s m (-(k : Int))).sum (.number t n (-(l : Int)))).map double.write = some (floatOfInt .f64 (a + b)) := by
  have e1 : (-(k : Int) - min (-(k : Int)) (-(l : Int))).toNat = max k l - k := by omega
  have e2 : (-(l : Int) - min (-(k : Int)) (-(l : Int))).toNat = max k l - l := by omega
  have e3 : min (-(k : Int)) (-(l : Int)) = -((max k l : Nat) : Int) := by omega
  unfold Datum.sum
  dsimp only
  rw [e1, e2, e3, ha, hb, show k + (max k l - k) = max k l by omega, show l + (max k l - l) = max k l by omega, ← Int.add_mul]
  generalize max k l = M
  simp only [Option.map_some, mul_pow_zero, mul_pow_neg, natAbs_mul_pow]
  congr 1
  refine write_int _ _ _ hc ?_
  by_cases h : a + b = 0
  · rw [if_pos h, hz h]; simp [h]
  · rw [if_neg h]

theorem fl_add {a b : Int} (ha : a.natAbs < 2 ^ 53) (hb : b.natAbs < 2 ^ 53) (hc : (a + b).natAbs < 2 ^ 53) :
    floatBits .add .f64 (floatOfInt .f64 a) (floatOfInt .f64 b) = some (floatOfInt .f64 (a + b)) := by
  obtain ⟨k, hk⟩ := read_int a ha
  obtain ⟨l, hl⟩ := read_int b hb
  show ((double.read _).sum (double.read _)).map double.write = _
  rw [hk, hl]
  refine sum_int _ _ _ _ a b k l (signed_int a k) (signed_int b l) ?_ hc
  intro h
  by_cases h1 : a < 0
  · have : ¬ b < 0 := by omega
    simp [this]
  · simp [h1]

theorem fl_sub {a b : Int} (ha : a.natAbs < 2 ^ 53) (hb : b.natAbs < 2 ^ 53) (hc : (a - b).natAbs < 2 ^ 53) :
    floatBits .sub .f64 (floatOfInt .f64 a) (floatOfInt .f64 b) = some (floatOfInt .f64 (a - b)) := by
  obtain ⟨k, hk⟩ := read_int a ha
  obtain ⟨l, hl⟩ := read_int b hb
  show ((double.read _).sum (double.read _).opposite).map double.write = _
  rw [hk, hl, Int.sub_eq_add_neg]
  refine sum_int _ _ _ _ a (-b) k l (signed_int a k) (signed_opp b l) ?_ (by rw [← Int.sub_eq_add_neg]; exact hc)
  intro h
  by_cases h1 : a < 0
  · have : b < 0 := by omega
    simp [this]
  · simp [h1]

theorem fl_mul {a b : Int} (h0 : 0 ≤ a) (h1 : 0 ≤ b) (ha : a.natAbs < 2 ^ 53) (hb : b.natAbs < 2 ^ 53) (hc : (a * b).natAbs < 2 ^ 53) :
    floatBits .mul .f64 (floatOfInt .f64 a) (floatOfInt .f64 b) = some (floatOfInt .f64 (a * b)) := by
  obtain ⟨k, hk⟩ := read_int a ha
  obtain ⟨l, hl⟩ := read_int b hb
  show ((double.read _).product (double.read _)).map double.write = _
  rw [hk, hl]
  unfold Datum.product
  simp only [Option.map_some]
  congr 1
  have e1 : -(k : Int) + -(l : Int) = -((k + l : Nat) : Int) := by omega
  have e2 : a.natAbs * 2 ^ k * (b.natAbs * 2 ^ l) = (a * b).natAbs * 2 ^ (k + l) := by
    rw [Int.natAbs_mul, Nat.pow_add]; simp only [Nat.mul_assoc, Nat.mul_left_comm]
  rw [e1, e2]
  refine write_int _ _ _ hc ?_
  have : ¬ a < 0 := by omega
  have : ¬ b < 0 := by omega
  have : ¬ a * b < 0 := by have := Int.mul_nonneg h0 h1; omega
  simp [*]

theorem fl_order {a b : Int} (ha : a.natAbs < 2 ^ 53) (hb : b.natAbs < 2 ^ 53) :
    double.order (floatOfInt .f64 a) (floatOfInt .f64 b) = some (compare a b) := by
  obtain ⟨k, hk⟩ := read_int a ha
  obtain ⟨l, hl⟩ := read_int b hb
  show (double.read _).order (double.read _) = _
  rw [hk, hl]
  have e1 : (-(k : Int) - min (-(k : Int)) (-(l : Int))).toNat = max k l - k := by omega
  have e2 : (-(l : Int) - min (-(k : Int)) (-(l : Int))).toNat = max k l - l := by omega
  unfold Datum.order
  dsimp only
  rw [e1, e2, signed_int, signed_int, show k + (max k l - k) = max k l by omega, show l + (max k l - l) = max k l by omega]
  generalize max k l = M
  have hp : (0 : Int) < ((2 ^ M : Nat) : Int) := by have := Nat.two_pow_pos M; omega
  congr 1
  simp only [compare, compareOfLessAndEq]
  generalize ((2 ^ M : Nat) : Int) = P at hp ⊢
  have h1 : a * P < b * P ↔ a < b := ⟨fun h => Int.lt_of_mul_lt_mul_right h (by omega), fun h => Int.mul_lt_mul_of_pos_right h hp⟩
  have h2 : a * P = b * P ↔ a = b := ⟨fun h => Int.eq_of_mul_eq_mul_right (by omega) h, fun h => by rw [h]⟩
  simp only [h1, h2]

theorem fl_lt {a b : Int} (ha : a.natAbs < 2 ^ 53) (hb : b.natAbs < 2 ^ 53) : (FloatKind.f64.format.order (floatOfInt .f64 a) (floatOfInt .f64 b) == some .lt) = decide (a < b) := by
  rw [show FloatKind.f64.format = double from rfl, fl_order ha hb]
  simp only [compare, compareOfLessAndEq]
  by_cases h : a < b
  · simp [h]
  · by_cases h2 : a = b <;> simp [h, h2]

theorem fl_gt {a b : Int} (ha : a.natAbs < 2 ^ 53) (hb : b.natAbs < 2 ^ 53) : (FloatKind.f64.format.order (floatOfInt .f64 a) (floatOfInt .f64 b) == some .gt) = decide (b < a) := by
  rw [show FloatKind.f64.format = double from rfl, fl_order ha hb]
  simp only [compare, compareOfLessAndEq]
  by_cases h : a < b
  · have : ¬ b < a := by omega
    simp [h, this]
  · by_cases h2 : a = b
    · simp [h2]
    · have : b < a := by omega
      simp [h, h2, this]

theorem fl_eq {a b : Int} (ha : a.natAbs < 2 ^ 53) (hb : b.natAbs < 2 ^ 53) : (FloatKind.f64.format.order (floatOfInt .f64 a) (floatOfInt .f64 b) == some .eq) = decide (a = b) := by
  rw [show FloatKind.f64.format = double from rfl, fl_order ha hb]
  simp only [compare, compareOfLessAndEq]
  by_cases h : a < b
  · have : ¬ a = b := by omega
    simp [h, this]
  · by_cases h2 : a = b <;> simp [h, h2]

theorem fl_leq {a b : Int} (ha : a.natAbs < 2 ^ 53) (hb : b.natAbs < 2 ^ 53) : (FloatKind.f64.format.order (floatOfInt .f64 a) (floatOfInt .f64 b) == some .lt || FloatKind.f64.format.order (floatOfInt .f64 a) (floatOfInt .f64 b) == some .eq) = decide (a ≤ b) := by
  rw [fl_lt ha hb, fl_eq ha hb, ← Bool.decide_or]
  congr 1
  simp only [eq_iff_iff]
  omega

/-- Back to a whole number. -/
theorem fl_toInt {n : Int} (h : n.natAbs < 2 ^ 53) : floatToIntVal .f64 (floatOfInt .f64 n) .i64 = some n := by
  obtain ⟨k, hk⟩ := read_int n h
  unfold floatToIntVal
  have e : (FloatKind.f64.decode (floatOfInt .f64 n)).toInt .zero = some n := by
    show (double.read _).toInt .zero = _
    rw [hk]
    unfold Datum.toInt Datum.integral
    have e1 : (-(k : Int)).toNat = 0 := by omega
    have e2 : (- -(k : Int)).toNat = k := by omega
    simp only [e1, e2, Nat.shiftLeft_zero, cut_exact]
    have := signed_int n 0 0
    simpa using this
  rw [e]
  have h1 : IntKind.i64.min = -9223372036854775808 := by rfl
  have h2 : IntKind.i64.max = 9223372036854775807 := by rfl
  have h3 : n.natAbs < 9007199254740992 := h
  dsimp only
  rw [if_pos (by rw [h1, h2]; omega)]

/-- The word without its sign. -/
theorem fl_abs {n : Int} (h : n.natAbs < 2 ^ 53) : floatOfInt .f64 n % 2 ^ 63 = floatOfInt .f64 (n.natAbs : Int) := by
  by_cases h0 : n = 0
  · subst h0; rw [Int.natAbs_zero]; show floatOfInt .f64 0 % _ = floatOfInt .f64 0; rw [fl_zero]
  · have h1 : ((n.natAbs : Int)).natAbs = n.natAbs := by omega
    rw [fl_word h0 h, fl_word (n := (n.natAbs : Int)) (by omega) (by omega), h1]
    have hs : double.signWeight = 2 ^ 63 := by unfold Format.signWeight; rfl
    have hlt : (1022 + n.natAbs.log2) * 2 ^ 52 + n.natAbs * 2 ^ (52 - n.natAbs.log2) < 2 ^ 63 := by
      have hL : n.natAbs.log2 < 53 := (Nat.log2_lt (by omega)).2 h
      have ⟨_, b⟩ := mant_bounds (n := n.natAbs) (by omega) h
      rw [show (2 : Nat) ^ 63 = 2048 * 2 ^ 52 from rfl]
      generalize (2 : Nat) ^ 52 = P at b ⊢
      have h3 : (1022 + n.natAbs.log2) * P ≤ 1075 * P := Nat.mul_le_mul_right _ (by omega)
      omega
    have h2 : ¬ (n.natAbs : Int) < 0 := by omega
    unfold Format.word
    rw [hs]
    by_cases hn : n < 0
    · simp only [hn, decide_true, if_true, h2, decide_false, Bool.false_eq_true, if_false]
      rw [Nat.add_mod_left, Nat.mod_eq_of_lt hlt]
    · simp only [hn, h2, decide_false, Bool.false_eq_true, if_false]
      rw [Nat.mod_eq_of_lt hlt]

theorem fl_lt_word {n : Int} : floatOfInt .f64 n < 2 ^ 64 := double.nearest_lt _ _ _

theorem fl_one : floatOfInt .f64 1 = 4607182418800017408 := by decide +kernel
theorem fl_neg_one : floatOfInt .f64 (-1) = 13830554455654793216 := by decide +kernel

end Go.Proofs.Ytomadecehklbmaa
