/-
  The plain laws on counts by shares, two rows side by side: multiples, one share raised, whole shares. No program in sight.
-/
import Derived.Test.YtfghfmlhoelbkaaShareLaw
namespace Go.Proofs.Ytfghfmlhoelbkaa
set_option linter.unusedVariables false

theorem beats_congr {R T : Nat → Int} {i j : Nat} (h : R j < R i ↔ T j < T i) (h' : R i = R j ↔ T i = T j) : beats R i j = beats T i j := by
  rw [Bool.eq_iff_iff, beats_iff, beats_iff, h, h']

/-- Shares that are all m times greater. -/
theorem counts_scale {f m : Int} {n : Nat} {Y : Nat → Int} (hm1 : 1 ≤ m) (hm : may f n Y) (h1 : 1 ≤ totN Y n) (h2 : totN Y n ≤ 6000) (hm' : may f n (fun j => m * Y j)) (h2' : totN (fun j => m * Y j) n ≤ 6000) :
    ∀ j, j < n → shC f n (fun j => m * Y j) (totN (fun j => m * Y j) n) j = shC f n Y (totN Y n) j := by
  have ht := totN_mul m Y n
  have h1' : 1 ≤ totN (fun j => m * Y j) n := by
    rw [ht]
    have := Int.mul_le_mul hm1 h1 (by omega) (by omega)
    omega
  have hQ : ∀ j, Qs f (totN (fun j => m * Y j) n) (fun j => m * Y j) j = Qs f (totN Y n) Y j := fun j => by
    unfold Qs
    rw [ht, ← Int.mul_assoc, Int.mul_comm f m, Int.mul_assoc]
    exact Int.mul_ediv_mul_of_pos _ _ (by omega)
  have hR : ∀ j, Rs f (totN (fun j => m * Y j) n) (fun j => m * Y j) j = m * Rs f (totN Y n) Y j := fun j => by
    unfold Rs
    rw [ht, ← Int.mul_assoc, Int.mul_comm f m, Int.mul_assoc]
    exact Int.mul_emod_mul_of_pos _ _ (by omega)
  obtain ⟨S, hc, hd, hk, _⟩ := shC_spec hm h1 h2
  obtain ⟨T, hc', hd', hk', _⟩ := shC_spec hm' h1' h2'
  intro j hj
  rw [hc j hj, hc' j hj, hQ]
  have hkk : cntB T n = cntB S n := by rw [hk, hk']; rw [totN_congr (fun j _ => hQ j)]
  have e : S j = T j := by
    rw [Bool.eq_iff_iff, given_iff hd hj, given_iff hd' hj, hkk]
    have : cntB (fun i => beats (Rs f (totN Y n) Y) i j) n = cntB (fun i => beats (Rs f (totN (fun j => m * Y j) n) (fun j => m * Y j)) i j) n :=
      cntB_same (fun i hi => by
        refine beats_congr ?_ ?_
        · rw [hR, hR]
          exact ⟨fun h => Int.mul_lt_mul_of_pos_left h (by omega), fun h => Int.lt_of_mul_lt_mul_left h (by omega)⟩
        · rw [hR, hR]
          exact ⟨fun h => by rw [h], fun h => Int.eq_of_mul_eq_mul_left (by omega) h⟩)
    rw [this]
  rw [e]

theorem totN_upd {Y : Nat → Int} {k : Nat} {v : Int} : ∀ {n : Nat}, k < n → totN (upd Y k v) n = totN Y n + (v - Y k)
  | 0, h => by omega
  | n + 1, h => by
    simp only [totN]
    by_cases e : k = n
    · subst e
      have h1 : totN (upd Y k v) k = totN Y k := totN_congr (fun j hj => by unfold upd; rw [if_neg (by omega)])
      have h2 : upd Y k v k = v := by unfold upd; rw [if_pos rfl]
      rw [h1, h2]; omega
    · have h2 : upd Y k v n = Y n := by unfold upd; rw [if_neg (by omega)]
      rw [totN_upd (n := n) (by omega), h2]; omega

/-- One share raised by d. -/
theorem counts_more {f d : Int} {n k : Nat} {Y : Nat → Int} (hk : k < n) (hd0 : 0 ≤ d) (hm : may f n Y) (h1 : 1 ≤ totN Y n) (h2 : totN Y n ≤ 6000) (hm' : may f n (upd Y k (Y k + d))) (h2' : totN (upd Y k (Y k + d)) n ≤ 6000) :
    shC f n Y (totN Y n) k ≤ shC f n (upd Y k (Y k + d)) (totN (upd Y k (Y k + d)) n) k := by
  have ht := totN_upd (Y := Y) (k := k) (v := Y k + d) hk
  have h1' : 1 ≤ totN (upd Y k (Y k + d)) n := by omega
  obtain ⟨S, hc, hdn, hs, _⟩ := shC_spec hm h1 h2
  obtain ⟨T, hc', hdn', hs', _⟩ := shC_spec hm' h1' h2'
  rw [hc k hk, hc' k hk]
  have hps := parts_small hm h1 h2 (le_totN hm.2.2.2.2)
  have hps' := parts_small hm' h1' h2' (le_totN hm'.2.2.2.2)
  have hf := hm.1
  have hYk := le_totN hm.2.2.2.2 k hk
  -- the parts, side by side
  have eqs : ∀ (all : Int) (Z : Nat → Int) j, all * Qs f all Z j + Rs f all Z j = f * Z j := fun all Z j => Int.mul_ediv_add_emod (f * Z j) all
  have a1 := eqs (totN Y n) Y k
  have a2 := eqs (totN (upd Y k (Y k + d)) n) (upd Y k (Y k + d)) k
  have hZk : upd Y k (Y k + d) k = Y k + d := by unfold upd; rw [if_pos rfl]
  have hZi : ∀ i, i ≠ k → upd Y k (Y k + d) i = Y i := fun i hi => by unfold upd; rw [if_neg hi]
  have hall : totN (upd Y k (Y k + d)) n = totN Y n + d := by omega
  rw [hZk] at a2
  have hRlt : ∀ (all : Int) (Z : Nat → Int) j, 1 ≤ all → Rs f all Z j < all := fun all Z j h => Int.emod_lt_of_pos _ (by omega)
  have hqf : Qs f (totN Y n) Y k ≤ f := by
    have : f * Y k ≤ f * totN Y n := Int.mul_le_mul_of_nonneg_left hYk (by omega)
    have := Int.ediv_le_ediv (show 0 < totN Y n by omega) this
    rwa [Int.mul_ediv_cancel _ (by omega)] at this
  have hqk : Qs f (totN Y n) Y k ≤ Qs f (totN (upd Y k (Y k + d)) n) (upd Y k (Y k + d)) k := by
    refine Int.le_ediv_of_mul_le (by omega) ?_
    rw [hZk, hall, Int.mul_add, Int.mul_add]
    have b1 : Qs f (totN Y n) Y k * d ≤ f * d := Int.mul_le_mul_of_nonneg_right hqf hd0
    have b2 := (hps k hk).2.2.1
    have b3 : Qs f (totN Y n) Y k * totN Y n = totN Y n * Qs f (totN Y n) Y k := Int.mul_comm _ _
    omega
  have bS := ind_bounds (S k)
  have bT := ind_bounds (T k)
  by_cases hq : Qs f (totN Y n) Y k = Qs f (totN (upd Y k (Y k + d)) n) (upd Y k (Y k + d)) k
  case neg => omega
  cases hSk : S k
  · rw [hSk] at bS; simp only [ind, Bool.false_eq_true, if_false]; omega
  have hlt := (given_iff hdn hk).1 hSk
  have hTk : T k = true := by
    rw [given_iff hdn' hk]
    have key : cntB (fun i => beats (Rs f (totN (upd Y k (Y k + d)) n) (upd Y k (Y k + d))) i k) n + totN (Qs f (totN (upd Y k (Y k + d)) n) (upd Y k (Y k + d))) n
        ≤ cntB (fun i => beats (Rs f (totN Y n) Y) i k) n + totN (Qs f (totN Y n) Y) n := by
      rw [← totN_ind, ← totN_ind, ← totN_add, ← totN_add]
      refine totN_le (fun i hi => ?_)
      by_cases e : i = k
      · subst e
        have f1 : ∀ R, beats R i i = false := fun R => by simp [beats]
        simp only [f1]; omega
      · have c1 := eqs (totN Y n) Y i
        have c2 := eqs (totN (upd Y k (Y k + d)) n) (upd Y k (Y k + d)) i
        rw [hZi i e] at c2
        have p1 := hps i hi
        have p2 := hps' i hi
        have hqi : Qs f (totN (upd Y k (Y k + d)) n) (upd Y k (Y k + d)) i ≤ Qs f (totN Y n) Y i := by
          refine Int.le_ediv_of_mul_le (by omega) ?_
          have g1 : Qs f (totN (upd Y k (Y k + d)) n) (upd Y k (Y k + d)) i * totN Y n ≤ Qs f (totN (upd Y k (Y k + d)) n) (upd Y k (Y k + d)) i * totN (upd Y k (Y k + d)) n := Int.mul_le_mul_of_nonneg_left (by omega) p2.1
          have g2 : Qs f (totN (upd Y k (Y k + d)) n) (upd Y k (Y k + d)) i * totN (upd Y k (Y k + d)) n = totN (upd Y k (Y k + d)) n * Qs f (totN (upd Y k (Y k + d)) n) (upd Y k (Y k + d)) i := Int.mul_comm _ _
          omega
        have i1 := ind_bounds (beats (Rs f (totN (upd Y k (Y k + d)) n) (upd Y k (Y k + d))) i k)
        have i2 := ind_bounds (beats (Rs f (totN Y n) Y) i k)
        by_cases hqe : Qs f (totN (upd Y k (Y k + d)) n) (upd Y k (Y k + d)) i = Qs f (totN Y n) Y i
        case neg => omega
        have imp : beats (Rs f (totN (upd Y k (Y k + d)) n) (upd Y k (Y k + d))) i k = true → beats (Rs f (totN Y n) Y) i k = true := by
          rw [beats_iff, beats_iff]
          have c3 : (totN Y n + d) * Qs f (totN Y n) Y i + Rs f (totN (upd Y k (Y k + d)) n) (upd Y k (Y k + d)) i = f * Y i := by rw [← hqe, ← hall]; exact c2
          have a3 : (totN Y n + d) * Qs f (totN Y n) Y k + Rs f (totN (upd Y k (Y k + d)) n) (upd Y k (Y k + d)) k = f * (Y k + d) := by rw [hq, ← hall]; exact a2
          rw [Int.add_mul] at c3 a3
          rw [Int.mul_add] at a3
          generalize Rs f (totN (upd Y k (Y k + d)) n) (upd Y k (Y k + d)) i = ri at c3 ⊢
          generalize Rs f (totN (upd Y k (Y k + d)) n) (upd Y k (Y k + d)) k = rk at a3 ⊢
          have g1 : 0 ≤ d * Qs f (totN Y n) Y i := Int.mul_nonneg hd0 p1.1
          have g2 : d * Qs f (totN Y n) Y k ≤ f * d := by rw [Int.mul_comm f d]; exact Int.mul_le_mul_of_nonneg_left hqf hd0
          omega
        cases hb : beats (Rs f (totN (upd Y k (Y k + d)) n) (upd Y k (Y k + d))) i k
        · simp only [ind, Bool.false_eq_true, if_false] at i2 ⊢; omega
        · rw [imp hb]; omega
    omega
  rw [hTk]
  simp only [ind, if_true]; omega

/-- Shares that part the frame without a rest. -/
theorem counts_whole {n : Nat} {Y : Nat → Int} (h1 : 1 ≤ totN Y n) : ∀ j, j < n → shC (totN Y n) n Y (totN Y n) j = Y j := by
  have hQ : ∀ j, Qs (totN Y n) (totN Y n) Y j = Y j := fun j => by unfold Qs; exact Int.mul_ediv_cancel_left _ (by omega)
  intro j hj
  unfold shC
  rw [totN_congr (fun i _ => hQ i), Int.sub_self]
  exact hQ j
end Go.Proofs.Ytfghfmlhoelbkaa
