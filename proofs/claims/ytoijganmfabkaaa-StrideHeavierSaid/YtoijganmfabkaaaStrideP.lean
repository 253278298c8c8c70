/-
  Plain laws of strides: sixteen weights that each part the whole without a rest.
-/
import Derived.Test.YtoijganmfabkaaaStride
import Derived.LoopTactic
namespace Go.Proofs.Ytoijganmfabkaaa
open Go.RowKit

theorem ofW_exact {k : Int} (h1 : 1 ≤ k) (h2 : k ≤ 16) : ofW k * k = 720720 := by
  have : k = 1 ∨ k = 2 ∨ k = 3 ∨ k = 4 ∨ k = 5 ∨ k = 6 ∨ k = 7 ∨ k = 8 ∨ k = 9 ∨ k = 10 ∨ k = 11 ∨ k = 12 ∨ k = 13 ∨ k = 14 ∨ k = 15 ∨ k = 16 := by omega
  rcases this with h | h | h | h | h | h | h | h | h | h | h | h | h | h | h | h <;> subst h <;> rfl

theorem ofW_above {k : Int} (h : 1 ≤ k) : ofW (k + 16) = 0 := by
  unfold ofW; rw [if_neg]; rw [isW_true]; omega

theorem ofW_anti {x y : Int} (x1 : 1 ≤ x) (x2 : x ≤ 16) (y1 : 1 ≤ y) (y2 : y ≤ 16) : ofW x < ofW y ↔ y < x := by
  have hx := ofW_exact x1 x2
  have hy := ofW_exact y1 y2
  have px := ofW_pos (n := x) (isW_true.2 ⟨x1, x2⟩)
  have py := ofW_pos (n := y) (isW_true.2 ⟨y1, y2⟩)
  constructor
  · intro h
    by_cases hc : y < x
    · exact hc
    · exfalso
      have a : ofW x * x ≤ ofW x * y := Int.mul_le_mul_of_nonneg_left (by omega) (by omega)
      have b : ofW x * y < ofW y * y := Int.mul_lt_mul_of_pos_right h (by omega)
      omega
  · intro h
    by_cases hc : ofW x < ofW y
    · exact hc
    · exfalso
      have a : ofW y * y ≤ ofW x * y := Int.mul_le_mul_of_nonneg_right (by omega) (by omega)
      have b : ofW x * y < ofW x * x := Int.mul_lt_mul_of_pos_left h (by omega)
      omega

theorem wayW_in {n a : Int} (h0 : 0 ≤ n) (h : n ≤ 1048576) : wayW n a = n * ofW a := by
  unfold wayW; rw [show held n = n by unfold held; omega]

theorem fairB_comm (n a m b : Int) : fairB m b n a = fairB n a m b := by
  unfold fairB
  congr 1
  simp only [eq_iff_iff]
  omega

theorem fairB_more {i x j y : Int} (i0 : 0 ≤ i) (i1 : i ≤ 65535) (j0 : 0 ≤ j) (j1 : j ≤ 65535) (x1 : 1 ≤ x) (x2 : x ≤ 16) (y1 : 1 ≤ y) (y2 : y ≤ 16) :
    fairB (i + x) x (j + y) y = fairB i x j y := by
  have hx := ofW_exact x1 x2
  have hy := ofW_exact y1 y2
  unfold fairB
  rw [wayW_in (n := i) i0 (by omega), wayW_in (n := j) j0 (by omega), wayW_in (n := i + x) (by omega) (by omega), wayW_in (n := j + y) (by omega) (by omega), Int.add_mul, Int.add_mul, Int.mul_comm x, Int.mul_comm y, hx, hy]
  congr 1
  simp only [eq_iff_iff]
  omega

theorem fairB_self (i x : Int) : fairB i x i x = true := by
  have ⟨a, _⟩ := wayW_bounds 1 x
  unfold fairB
  simp only [decide_eq_true_eq]
  omega

theorem fairB_first (x y : Int) : fairB 0 x 1 y = true := by
  have ⟨a, _⟩ := wayW_bounds 1 x
  have ⟨b, _⟩ := wayW_bounds 1 y
  have : wayW 0 x = 0 := by unfold wayW; rw [show held 0 = 0 from rfl, Int.zero_mul]
  unfold fairB
  simp only [decide_eq_true_eq]
  omega

theorem scaleW_in {n r x y : Int} (h0 : 0 ≤ r) (h1 : r ≤ ofW x) (x1 : isW x = true) :
    n ≤ scaleW (n + r) n x y ∧ scaleW (n + r) n x y ≤ n + ofW y ∧ (x = y → scaleW (n + r) n x y = n + r) ∧ (r = 0 → scaleW (n + r) n x y = n) := by
  have px := ofW_pos x1
  have ⟨b1, b2⟩ := ofW_bounds y
  unfold scaleW
  split
  · have : r = 0 := by omega
    omega
  · rw [show n + r - n = r by omega]
    have m0 : 0 ≤ r * ofW y := Int.mul_nonneg h0 b1
    have d0 : 0 ≤ r * ofW y / ofW x := Int.ediv_nonneg m0 (by omega)
    have d1 : r * ofW y / ofW x ≤ ofW y := by
      have : r * ofW y ≤ ofW y * ofW x := by rw [Int.mul_comm (ofW y)]; exact Int.mul_le_mul_of_nonneg_right h1 b1
      exact Int.ediv_le_of_le_mul (by omega) this
    refine ⟨by omega, by omega, fun h => ?_, fun h => by omega⟩
    rw [← h, Int.mul_ediv_cancel _ (by omega)]

end Go.Proofs.Ytoijganmfabkaaa
