/-
  The plain laws on counts by shares: who is given one of what is left. No program in sight.
-/
import Derived.Test.YtfghfmlhoelbkaaShareEx
namespace Go.Proofs.Ytfghfmlhoelbkaa
set_option linter.unusedVariables false

def ind (b : Bool) : Int := if b = true then 1 else 0
def cntB (p : Nat → Bool) : Nat → Int
  | 0 => 0
  | n + 1 => cntB p n + ind (p n)
theorem ind_bounds (b : Bool) : 0 ≤ ind b ∧ ind b ≤ 1 := by unfold ind; split <;> omega
theorem cntB_bounds (p : Nat → Bool) : ∀ n, 0 ≤ cntB p n ∧ cntB p n ≤ n
  | 0 => by simp [cntB]
  | n + 1 => by
    have := cntB_bounds p n
    have := ind_bounds (p n)
    simp only [cntB]; omega
theorem cntB_le {p q : Nat → Bool} : ∀ {n : Nat}, (∀ j, j < n → p j = true → q j = true) → cntB p n ≤ cntB q n
  | 0, _ => by simp [cntB]
  | n + 1, h => by
    have ih := cntB_le (n := n) (fun j hj => h j (by omega))
    have h1 := h n (by omega)
    have hi : ind (p n) ≤ ind (q n) := by
      unfold ind
      cases hp : p n
      · simp; split <;> omega
      · rw [h1 hp]; simp
    simp only [cntB]; omega
/-- One more. -/
def also (p : Nat → Bool) (a : Nat) (j : Nat) : Bool := if j = a then true else p j
theorem cntB_same {p q : Nat → Bool} : ∀ {n : Nat}, (∀ j, j < n → p j = q j) → cntB p n = cntB q n
  | 0, _ => rfl
  | n + 1, h => by simp only [cntB]; rw [cntB_same (fun j hj => h j (Nat.lt_succ_of_lt hj)), h n (by omega)]
theorem cntB_also {p : Nat → Bool} {a : Nat} (ha : p a = false) : ∀ {n : Nat}, a < n → cntB (also p a) n = cntB p n + 1
  | 0, h => by omega
  | n + 1, h => by
    simp only [cntB]
    by_cases e : n = a
    · subst e
      have h1 : cntB (also p n) n = cntB p n := cntB_same (fun j hj => by unfold also; rw [if_neg (by omega)])
      have h2 : also p n n = true := by unfold also; rw [if_pos rfl]
      rw [h1, h2, ha]; simp [ind]
    · have := cntB_also ha (n := n) (by omega)
      have h2 : also p a n = p n := by unfold also; rw [if_neg e]
      rw [this, h2]; omega
theorem cntB_full {p : Nat → Bool} : ∀ {n : Nat}, (∀ j, j < n → p j = true) → cntB p n = n
  | 0, _ => rfl
  | n + 1, h => by
    have ih := cntB_full (n := n) (fun j hj => h j (by omega))
    simp only [cntB]
    rw [ih, h n (by omega)]
    simp [ind]
theorem cntB_none : ∀ n, cntB (fun _ => false) n = 0
  | 0 => rfl
  | n + 1 => by simp only [cntB]; rw [cntB_none n]; rfl

/-- i goes ahead of j. -/
def beats (R : Nat → Int) (i j : Nat) : Bool := decide (R j < R i) || (decide (R i = R j) && decide (i < j))
theorem beats_iff {R : Nat → Int} {i j : Nat} : beats R i j = true ↔ (R j < R i ∨ (R i = R j ∧ i < j)) := by simp [beats]
theorem beats_one {R : Nat → Int} {i j : Nat} (h : i ≠ j) : beats R i j = true ∨ beats R j i = true := by simp only [beats_iff]; omega

theorem gr_spec (R : Nat → Int) : ∀ n, 0 < n → (∀ i, i < n → R i ≤ R (gr R n)) ∧ (∀ i, i < gr R n → R i < R (gr R n))
  | 0, h => by omega
  | n + 1, _ => by
    rcases Nat.eq_zero_or_pos n with rfl | hn
    · rw [gr_one]
      exact ⟨fun i hi => by have : i = 0 := by omega
                            subst this; exact Int.le_refl _, fun i hi => by omega⟩
    · have ⟨h1, h2⟩ := gr_spec R n hn
      have hl := gr_lt R n hn
      simp only [gr]
      split
      · rename_i hx
        refine ⟨fun i hi => ?_, fun i hi => ?_⟩
        · by_cases e : i = n
          · subst e; exact Int.le_refl _
          · have := h1 i (by omega); omega
        · have := h1 i hi; omega
      · rename_i hx
        refine ⟨fun i hi => ?_, h2⟩
        by_cases e : i = n
        · subst e; omega
        · exact h1 i (by omega)

structure Inv (n : Nat) (Q R : Nat → Int) (m : Nat) (s : St) (S : Nat → Bool) : Prop where
  c : ∀ j, j < n → s.1 j = Q j + ind (S j)
  r : ∀ j, j < n → s.2 j = if S j = true then -1 else R j
  d : ∀ i j, i < n → j < n → S j = true → beats R i j = true → S i = true
  k : cntB S n = m

theorem inv_run (n : Nat) (Q R : Nat → Int) (hR : ∀ j, j < n → 0 ≤ R j) : ∀ m, m ≤ n → ∃ S, Inv n Q R m (run n m (Q, R)) S
  | 0, _ => ⟨fun _ => false, fun j _ => by simp [run, ind], fun j _ => by simp [run], fun i j _ _ h _ => absurd h (by simp), (by rw [cntB_none]; rfl)⟩
  | m + 1, hm => by
    obtain ⟨S, hc, hr, hd, hk⟩ := inv_run n Q R hR m (by omega)
    have hn : 0 < n := by omega
    obtain ⟨u, hu, hSu⟩ : ∃ u, u < n ∧ S u = false := by
      by_cases h : ∃ u, u < n ∧ S u = false
      · exact h
      · have := cntB_full (p := S) (n := n) (fun j hj => by
          cases e : S j
          · exact absurd ⟨j, hj, e⟩ h
          · rfl)
        omega
    generalize hs : run n m (Q, R) = s at hc hr
    have ha := gr_lt s.2 n hn
    have ⟨g1, g2⟩ := gr_spec s.2 n hn
    have hrun : run n (m + 1) (Q, R) = stepS n s := by simp only [run]; rw [hs]
    rw [hrun]
    unfold stepS
    generalize gr s.2 n = a at ha g1 g2 ⊢
    have hSa : S a = false := by
      cases e : S a
      · rfl
      · have h1 := g1 u hu
        have h2 := hr a ha
        have h3 := hr u hu
        rw [e, if_pos rfl] at h2
        rw [hSu, if_neg (by simp)] at h3
        have := hR u hu
        omega
    have hra := hr a ha
    rw [hSa, if_neg (by simp)] at hra
    refine ⟨also S a, fun j hj => ?_, fun j hj => ?_, fun i j hi hj hS hb => ?_, ?_⟩
    · simp only [upd, also]
      by_cases e : j = a
      · subst e
        have := hc j hj
        rw [hSa] at this
        simp only [if_true, ind] at this ⊢
        simp at this ⊢
        omega
      · simp only [if_neg e]; exact hc j hj
    · simp only [upd, also]
      by_cases e : j = a
      · simp [e]
      · simp only [if_neg e]; exact hr j hj
    · unfold also at hS ⊢
      by_cases e : i = a
      · simp [e]
      · rw [if_neg e]
        by_cases e2 : j = a
        · subst e2
          cases hSi : S i
          · have h1 := g1 i hi
            have h2 := hr i hi
            rw [hSi, if_neg (by simp)] at h2
            rw [beats_iff] at hb
            rcases hb with hb | ⟨hb, hb2⟩
            · omega
            · have := g2 i hb2; omega
          · rfl
        · rw [if_neg e2] at hS
          exact hd i j hi hj hS hb
    · rw [cntB_also hSa ha, hk]; omega

/-- What the counts are: the whole quanta, and one more for those whose rests go ahead; the rest of the frame is given. -/
theorem shC_spec {f : Int} {n : Nat} {Y : Nat → Int} (hm : may f n Y) (h1 : 1 ≤ totN Y n) (h2 : totN Y n ≤ 6000) :
    ∃ S : Nat → Bool, (∀ j, j < n → shC f n Y (totN Y n) j = Qs f (totN Y n) Y j + ind (S j)) ∧
      (∀ i j, i < n → j < n → S j = true → beats (Rs f (totN Y n) Y) i j = true → S i = true) ∧ cntB S n = f - totN (Qs f (totN Y n) Y) n ∧ 0 ≤ cntB S n := by
  have hps := parts_small hm h1 h2 (le_totN hm.2.2.2.2)
  have hfl := floors f (totN Y n) Y n
  have hle := floors_le (f := f) h1 rfl
  have hrn := rests_nonneg f (totN Y n) Y h1 n
  have hrl : ∀ k, totN (Rs f (totN Y n) Y) k ≤ k * (totN Y n - 1) := by
    intro k
    induction k with
    | zero => simp [totN]
    | succ k ih =>
      have := Int.emod_lt_of_pos (f * Y k) (show 0 < totN Y n by omega)
      have e : Rs f (totN Y n) Y k = f * Y k % totN Y n := rfl
      have e2 : ((k + 1 : Nat) : Int) * (totN Y n - 1) = k * (totN Y n - 1) + (totN Y n - 1) := by rw [Int.natCast_add, Int.add_mul]; omega
      simp only [totN] at *
      rw [e2]
      omega
  have hr := hrl n
  have hMn : f - totN (Qs f (totN Y n) Y) n ≤ n := by
    have e : (f - totN (Qs f (totN Y n) Y) n) * totN Y n = totN (Rs f (totN Y n) Y) n := by rw [Int.sub_mul]; omega
    by_cases h : f - totN (Qs f (totN Y n) Y) n ≤ n
    · exact h
    · have h4 : (n : Int) * totN Y n ≤ (f - totN (Qs f (totN Y n) Y) n) * totN Y n := Int.mul_le_mul_of_nonneg_right (by omega) (by omega)
      have h5 : (n : Int) * (totN Y n - 1) = n * totN Y n - n := by rw [Int.mul_sub]; omega
      have := hm.2.2.1
      omega
  obtain ⟨S, hS⟩ := inv_run n (Qs f (totN Y n) Y) (Rs f (totN Y n) Y) (fun j hj => (hps j hj).2.2.1) (f - totN (Qs f (totN Y n) Y) n).toNat (by omega)
  exact ⟨S, hS.c, hS.d, by rw [hS.k]; omega, (cntB_bounds S n).1⟩

/-- Who is given one: he whom fewer go ahead of than there are to give. -/
theorem given_iff {n : Nat} {R : Nat → Int} {S : Nat → Bool} (hd : ∀ i j, i < n → j < n → S j = true → beats R i j = true → S i = true) {k : Nat} (hk : k < n) :
    S k = true ↔ cntB (fun i => beats R i k) n < cntB S n := by
  have hkk : beats R k k = false := by simp [beats]
  constructor
  · intro hS
    have h1 : cntB (also (fun i => beats R i k) k) n ≤ cntB S n := cntB_le (fun j hj h => by
      unfold also at h
      by_cases e : j = k
      · rw [e]; exact hS
      · rw [if_neg e] at h; exact hd j k hj hk hS h)
    rw [cntB_also (p := fun i => beats R i k) hkk hk] at h1
    omega
  · intro h
    cases hS : S k
    · have h1 : cntB S n ≤ cntB (fun i => beats R i k) n := cntB_le (fun j hj hSj => by
        by_cases e : j = k
        · rw [e] at hSj; rw [hSj] at hS; cases hS
        · rcases beats_one (R := R) e with hb | hb
          · exact hb
          · have := hd k j hk hj hSj hb
            rw [this] at hS; cases hS)
      omega
    · rfl

theorem totN_add (A B : Nat → Int) : ∀ n, totN (fun j => A j + B j) n = totN A n + totN B n
  | 0 => rfl
  | n + 1 => by simp only [totN]; rw [totN_add A B n]; omega
theorem totN_ind (S : Nat → Bool) : ∀ n, totN (fun j => ind (S j)) n = cntB S n
  | 0 => rfl
  | n + 1 => by simp only [totN, cntB]; rw [totN_ind S n]
theorem totN_le {A B : Nat → Int} : ∀ {n : Nat}, (∀ j, j < n → A j ≤ B j) → totN A n ≤ totN B n
  | 0, _ => by simp [totN]
  | n + 1, h => by
    have := totN_le (fun j hj => h j (Nat.lt_succ_of_lt hj))
    have := h n (by omega)
    simp only [totN]; omega
theorem totN_mul (c : Int) (A : Nat → Int) : ∀ n, totN (fun j => c * A j) n = c * totN A n
  | 0 => by simp [totN]
  | n + 1 => by simp only [totN]; rw [totN_mul c A n, Int.mul_add]

/-- Nobody whose share parts without a rest is given one. -/
theorem given_rest {f : Int} {n : Nat} {Y : Nat → Int} {S : Nat → Bool} (h1 : 1 ≤ totN Y n) (hR : ∀ j, j < n → 0 ≤ Rs f (totN Y n) Y j)
    (hd : ∀ i j, i < n → j < n → S j = true → beats (Rs f (totN Y n) Y) i j = true → S i = true) (hk : cntB S n = f - totN (Qs f (totN Y n) Y) n)
    {k : Nat} (hkn : k < n) (hS : S k = true) : 0 < Rs f (totN Y n) Y k := by
  have h0 := hR k hkn
  by_cases hz : Rs f (totN Y n) Y k = 0
  case neg => omega
  have hfl := floors f (totN Y n) Y n
  have hlt : ∀ j, Rs f (totN Y n) Y j < totN Y n := fun j => Int.emod_lt_of_pos (f * Y j) (by omega)
  -- all rests lie with those who are given one, k's own being nought
  let S2 : Nat → Bool := fun j => S j && !decide (j = k)
  have hS2 : cntB S2 n + 1 = cntB S n := by
    have a1 : S2 k = false := by simp [S2]
    rw [← cntB_also a1 hkn]
    exact cntB_same (fun j hj => by
      unfold also
      by_cases e : j = k
      · rw [if_pos e, e]; exact hS.symm
      · rw [if_neg e]; simp [S2, e])
  have hle : totN (Rs f (totN Y n) Y) n ≤ (totN Y n - 1) * cntB S2 n := by
    rw [← totN_ind, ← totN_mul]
    refine totN_le (fun j hj => ?_)
    have b1 := hlt j
    have b0 := hR j hj
    by_cases e : j = k
    · rw [e, hz]
      have : S2 k = false := by simp [S2]
      rw [this]; simp [ind]
    · cases hSj : S j
      · have : Rs f (totN Y n) Y j = 0 := by
          by_cases hp : Rs f (totN Y n) Y j = 0
          · exact hp
          · have := hd j k hj hkn hS (beats_iff.2 (Or.inl (by omega)))
            rw [this] at hSj; cases hSj
        have e2 : S2 j = false := by simp [S2, hSj]
        rw [this, e2]; simp [ind]
      · have e2 : S2 j = true := by simp [S2, hSj, e]
        rw [e2]; simp only [ind, if_true]; omega
  have h3 := (cntB_bounds S2 n).1
  have e4 : cntB S n * totN Y n = totN (Rs f (totN Y n) Y) n := by rw [hk, Int.sub_mul]; omega
  rw [← hS2, Int.add_mul, Int.one_mul] at e4
  have e5 : (totN Y n - 1) * cntB S2 n = cntB S2 n * totN Y n - cntB S2 n := by rw [Int.sub_mul, Int.one_mul, Int.mul_comm]
  omega

section
variable {f : Int} {n : Nat} {Y : Nat → Int} (hm : may f n Y) (h1 : 1 ≤ totN Y n) (h2 : totN Y n ≤ 6000)
include hm h1 h2

theorem counts_sum : totN (shC f n Y (totN Y n)) n = f := by
  obtain ⟨S, hc, hd, hk, _⟩ := shC_spec hm h1 h2
  rw [totN_congr hc, totN_add, totN_ind, hk]; omega

theorem counts_near {j : Nat} (hj : j < n) : 0 ≤ shC f n Y (totN Y n) j ∧ shC f n Y (totN Y n) j * totN Y n - f * Y j < totN Y n ∧ -totN Y n < shC f n Y (totN Y n) j * totN Y n - f * Y j ∧ (Y j = 0 → shC f n Y (totN Y n) j = 0) := by
  obtain ⟨S, hc, hd, hk, _⟩ := shC_spec hm h1 h2
  have hps := parts_small hm h1 h2 (le_totN hm.2.2.2.2)
  have hR : ∀ j, j < n → 0 ≤ Rs f (totN Y n) Y j := fun j hj => (hps j hj).2.2.1
  have he := Int.mul_ediv_add_emod (f * Y j) (totN Y n)
  have e1 : totN Y n * (f * Y j / totN Y n) = Qs f (totN Y n) Y j * totN Y n := by unfold Qs; rw [Int.mul_comm]
  have e2 : f * Y j % totN Y n = Rs f (totN Y n) Y j := rfl
  have hlt : Rs f (totN Y n) Y j < totN Y n := Int.emod_lt_of_pos (f * Y j) (by omega)
  rw [e1, e2] at he
  have h0 := hR j hj
  have hq := (hps j hj).1
  rw [hc j hj, Int.add_mul]
  cases hS : S j
  · simp only [ind, Bool.false_eq_true, if_false, Int.zero_mul]
    refine ⟨by omega, by omega, by omega, fun hz => ?_⟩
    unfold Qs; rw [hz]; simp
  · have hp := given_rest h1 hR hd hk hj hS
    simp only [ind, if_true, Int.one_mul]
    refine ⟨by omega, by omega, by omega, fun hz => ?_⟩
    have : Rs f (totN Y n) Y j = 0 := by unfold Rs; rw [hz]; simp
    omega

theorem counts_order {i k : Nat} (hi : i < n) (hk : k < n) (hY : Y i < Y k ∨ (Y i = Y k ∧ k < i)) : shC f n Y (totN Y n) i ≤ shC f n Y (totN Y n) k := by
  obtain ⟨S, hc, hd, hkk, _⟩ := shC_spec hm h1 h2
  rw [hc i hi, hc k hk]
  have bi := ind_bounds (S i)
  have bk := ind_bounds (S k)
  have hle : f * Y i ≤ f * Y k := Int.mul_le_mul_of_nonneg_left (by omega) (by have := hm.1; omega)
  have hq : Qs f (totN Y n) Y i ≤ Qs f (totN Y n) Y k := Int.ediv_le_ediv (by omega) hle
  by_cases e : Qs f (totN Y n) Y i = Qs f (totN Y n) Y k
  case neg => omega
  have h3 := Int.mul_ediv_add_emod (f * Y i) (totN Y n)
  have h4 := Int.mul_ediv_add_emod (f * Y k) (totN Y n)
  have e3 : f * Y i / totN Y n = Qs f (totN Y n) Y i := rfl
  have e4 : f * Y k / totN Y n = Qs f (totN Y n) Y k := rfl
  have e5 : f * Y i % totN Y n = Rs f (totN Y n) Y i := rfl
  have e6 : f * Y k % totN Y n = Rs f (totN Y n) Y k := rfl
  rw [e3, e5, e] at h3
  rw [e4, e6] at h4
  cases hS : S i
  · simp only [ind, Bool.false_eq_true, if_false]; omega
  · have hb : beats (Rs f (totN Y n) Y) k i = true := by
      rw [beats_iff]
      rcases hY with hY | ⟨hY, hki⟩
      · have hlt : f * Y i < f * Y k := Int.mul_lt_mul_of_pos_left hY (by have := hm.1; omega)
        left; omega
      · right
        rw [hY] at h3
        exact ⟨by omega, hki⟩
    rw [hd k i hk hi hS hb]
    simp only [ind, if_true]; omega
end
end Go.Proofs.Ytfghfmlhoelbkaa
