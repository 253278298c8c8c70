/-
  What the printed functions compute, in plain terms: SameInts, the sums, MayShares, the document's Counts, both Exacts.
-/
import Derived.Test.YtfghfmlhoelbkaaShareN
import Derived.Test.YtfghfmlhoelbkaaRCounts
namespace Go.Proofs.Ytfghfmlhoelbkaa
open Go.RowKit Go.Proofs.YtfghfmlhoelbkaaW.PrintWords Go.Proofs.Ytfghfmlhoelbkaa.PShareTells
set_option linter.unusedSimpArgs false
set_option linter.unusedVariables false

theorem X_at (l : List Int) (j : Nat) : rd l (j : Int) = X l j := rfl
theorem X_get (l : List Int) {j : Nat} (h : j < l.length) : X l j = l[j] := by
  unfold X rd
  rw [Int.toNat_natCast, List.getD_eq_getElem?_getD, List.getElem?_eq_getElem h]; rfl
theorem list_X {l m : List Int} (hl : l.length = m.length) (h : ∀ j, j < l.length → X l j = X m j) : l = m := by
  refine List.ext_getElem hl fun j h1 h2 => ?_
  rw [← X_get l h1, ← X_get m h2]; exact h j h1

theorem same_l0 (l m : List Int) (hl : l.length = m.length) (hs : l.length ≤ 1000) : ∀ (k j : Nat), j ≤ l.length → l.length - j < k → (∀ i, i < j → X l i = X m i) →
    tontineref1_SameInts.l0 k l m (j : Int) = some (decide (l = m))
  | 0, j, _, hk, _ => by omega
  | k + 1, j, hj, hk, hok => by
    unfold tontineref1_SameInts.l0
    by_cases hlt : j < l.length
    · rw [if_pos (by omega), if_pos (by omega), if_pos (by omega), X_at, X_at]
      by_cases e : X l j = X m j
      · rw [if_pos e, w64 (by omega) (by omega)]
        exact same_l0 l m hl hs k (j + 1) (by omega) (by omega) (fun i hi => by
          by_cases e2 : i = j
          · rw [e2]; exact e
          · exact hok i (by omega))
      · rw [if_neg e, decide_eq_false]; intro h; rw [h] at e; exact e rfl
    · obtain rfl : j = l.length := by omega
      rw [if_neg (by omega), decide_eq_true (list_X hl hok)]

theorem same_f (l m : List Int) (k : Nat) (hs : l.length ≤ 1000) (hk : l.length < k) : tontineref1_SameInts.f k l m = some (decide (l = m)) := by
  unfold tontineref1_SameInts.f
  by_cases e : l.length = m.length
  · rw [if_pos (by omega)]
    exact same_l0 l m e hs k 0 (by omega) (by omega) (fun i hi => by omega)
  · rw [if_neg (by omega), decide_eq_false]; intro h; rw [h] at e; exact e rfl

theorem totN_small {Y : Nat → Int} : ∀ {n : Nat}, (∀ j, j < n → 0 ≤ Y j ∧ Y j ≤ 1000) → 0 ≤ totN Y n ∧ totN Y n ≤ n * 1000
  | 0, _ => by simp [totN]
  | n + 1, h => by
    have := totN_small (fun j hj => h j (Nat.lt_succ_of_lt hj))
    have := h n (by omega)
    simp only [totN]; omega

theorem total_l0 (l : List Int) (hs : l.length ≤ 1000) (hb : ∀ j, j < l.length → 0 ≤ X l j ∧ X l j ≤ 1000) : ∀ (k j : Nat), j ≤ l.length → l.length - j < k →
    tontineref11_total.l0 k l (totN (X l) j) (j : Int) = some (totN (X l) l.length)
  | 0, j, _, hk => by omega
  | k + 1, j, hj, hk => by
    unfold tontineref11_total.l0
    by_cases hlt : j < l.length
    · rw [if_pos (by omega), if_pos (by omega), X_at]
      have h1 := totN_small (n := j) (fun i hi => hb i (by omega))
      have h2 := hb j hlt
      rw [w64 (by omega) (by omega), w64 (by omega) (by omega)]
      exact total_l0 l hs hb k (j + 1) (by omega) (by omega)
    · obtain rfl : j = l.length := by omega
      rw [if_neg (by omega)]

theorem total_f (l : List Int) (k : Nat) (hs : l.length ≤ 1000) (hk : l.length < k) (hb : ∀ j, j < l.length → 0 ≤ X l j ∧ X l j ≤ 1000) : tontineref11_total.f k l = some (totN (X l) l.length) :=
  total_l0 l hs hb k 0 (by omega) (by omega)

theorem may_l0 (l : List Int) (h6 : l.length ≤ 6) : ∀ (k j : Nat), j ≤ l.length → l.length - j + 10 < k → okB (X l) j = true →
    tontineref11_MayShares.l0 k l (j : Int) = some (decide (0 < if okB (X l) l.length = true then totN (X l) l.length else 0))
  | 0, j, _, hk, _ => by omega
  | k + 1, j, hj, hk, hok => by
    rw [tontineref11_MayShares.l0]
    by_cases hlt : j < l.length
    · rw [if_pos (by omega), if_pos (by omega), X_at]
      by_cases a1 : 0 ≤ X l j
      · rw [if_neg (by omega)]
        by_cases a2 : X l j ≤ 1000
        · rw [if_neg (by omega), w64 (by omega) (by omega)]
          exact may_l0 l h6 k (j + 1) (by omega) (by omega) (by simp [okB, hok, a1, a2])
        · rw [if_pos (by omega), okB_not j hlt (by omega)]; rfl
      · rw [if_pos (by omega), okB_not j hlt (by omega)]; rfl
    · obtain rfl : j = l.length := by omega
      rw [if_neg (by omega), if_pos hok, total_f l k (by omega) (by omega) (okB_at hok)]
      rfl

theorem may_f (f : Int) (l : List Int) (k : Nat) (hk : 30 ≤ k) : tontineref11_MayShares.f k f l = some (decide (0 < shSum f l.length (X l))) := by
  obtain ⟨k, rfl⟩ : ∃ m, k = m + 1 := ⟨k - 1, by omega⟩
  have hj : tontineref11_MayShares.j0 (k + 1) l true = some false := rfl
  unfold tontineref11_MayShares.f
  by_cases h1 : 1 ≤ f
  case neg => rw [if_pos (by omega), hj, shSum, if_neg (by unfold may; omega)]; rfl
  rw [if_neg (by omega)]
  by_cases h2 : f ≤ 64
  case neg => rw [if_pos (by omega), hj, shSum, if_neg (by unfold may; omega)]; rfl
  rw [if_neg (by omega)]
  by_cases h3 : 1 ≤ l.length
  case neg => rw [if_pos (by omega), hj, shSum, if_neg (by unfold may; omega)]; rfl
  rw [if_neg (by omega)]
  by_cases h4 : l.length ≤ 6
  case neg =>
    have : decide ((l.length : Int) > 6) = true := by simp; omega
    rw [this, hj, shSum, if_neg (by unfold may; omega)]; rfl
  have : decide ((l.length : Int) > 6) = false := by simp; omega
  rw [this]
  show tontineref11_MayShares.l0 k l 0 = _
  have := may_l0 l h4 k 0 (by omega) (by omega) rfl
  rw [show ((0 : Nat) : Int) = 0 from rfl] at this
  rw [this]
  unfold shSum may
  simp [h1, h2, h3, h4]

/-! the document's Counts -/
theorem tab_X (n : Nat) (C : Nat → Int) {j : Nat} (h : j < n) : X (tab n C) j = C j := by
  rw [X_get (tab n C) (by rw [tab_len]; exact h)]
  simp [tab]
theorem tab_set (n : Nat) (C : Nat → Int) (k : Nat) (v : Int) : (tab n C).set k v = tab n (upd C k v) := by
  refine List.ext_getElem (by simp [tab]) fun j h1 h2 => ?_
  rw [List.getElem_set]
  simp only [tab, List.getElem_map, List.getElem_range, upd]
  by_cases e : k = j
  · subst e; simp
  · rw [if_neg e, if_neg (by omega)]
theorem tab_rep (n : Nat) : List.replicate n (0 : Int) = tab n (fun _ => 0) := by
  refine List.ext_getElem (by simp [tab]) fun j h1 h2 => ?_
  simp [tab]
theorem tab_congr {n : Nat} {C D : Nat → Int} (h : ∀ j, j < n → C j = D j) : tab n C = tab n D :=
  list_X (by simp [tab]) fun j hj => by
    rw [tab_len] at hj
    rw [tab_X n C hj, tab_X n D hj, h j hj]
theorem totN_congr {C D : Nat → Int} : ∀ {n : Nat}, (∀ j, j < n → C j = D j) → totN C n = totN D n
  | 0, _ => rfl
  | n + 1, h => by simp only [totN]; rw [totN_congr (fun j hj => h j (Nat.lt_succ_of_lt hj)), h n (by omega)]

theorem gr_one (R : Nat → Int) : gr R 1 = 0 := by simp [gr]

theorem ref_l2 (n : Nat) (hn : 0 < n) (h6 : n ≤ 6) (C R : Nat → Int) (left : Int) (hC : ∀ j, j < n → -1000000 ≤ C j ∧ C j ≤ 1000000) (hl : -1000 ≤ left ∧ left ≤ 1000) : ∀ (k j : Nat), 1 ≤ j → j ≤ n → n - j < k →
    tontineref11_Counts.l2 k (tab n C) (tab n R) left (gr R j : Int) (j : Int) = tontineref11_Counts.l1 (k - (n - j) - 1) (tab n (upd C (gr R n) (C (gr R n) + 1))) (tab n (upd R (gr R n) (-1))) (left - 1)
  | 0, j, _, _, hk => by omega
  | k + 1, j, h1, hj, hk => by
    rw [tontineref11_Counts.l2, tab_len, tab_len]
    have hg := gr_le R j n hj hn
    by_cases hlt : j < n
    · rw [if_pos (by omega), if_pos (by omega), if_pos (by omega), if_pos (by omega), X_at, X_at, tab_X n R hlt, tab_X n R hg]
      have e : gr R (j + 1) = if R (gr R j) < R j then j else gr R j := rfl
      have ih := ref_l2 n hn h6 C R left hC hl k (j + 1) (by omega) (by omega) (by omega)
      rw [show k - (n - (j + 1)) - 1 = k + 1 - (n - j) - 1 by omega] at ih
      rw [w64 (by omega) (by omega)]
      by_cases hx : R (gr R j) < R j
      · rw [if_pos hx] at e ⊢
        rw [e] at ih
        exact ih
      · rw [if_neg hx] at e ⊢
        rw [e] at ih
        exact ih
    · obtain rfl : j = n := by omega
      have := hC _ hg
      rw [if_neg (by omega), if_pos (by omega), if_pos (by omega), if_pos (by omega), X_at, tab_X j C hg, w64 (by omega) (by omega), w64 (by omega) (by omega), Int.toNat_natCast, tab_set, tab_set]
      simp

theorem ref_l1 (n : Nat) (hn : 0 < n) (h6 : n ≤ 6) : ∀ (m k : Nat) (C R : Nat → Int) (left : Int), left = (m : Int) → m ≤ 64 → (∀ j, j < n → -1000 ≤ C j ∧ C j ≤ 1000 - m) → m * 8 < k →
    tontineref11_Counts.l1 k (tab n C) (tab n R) left = some (tab n (run n m (C, R)).1)
  | 0, k, C, R, left, hl, _, _, hk => by
    obtain ⟨k, rfl⟩ : ∃ i, k = i + 1 := ⟨k - 1, by omega⟩
    rw [tontineref11_Counts.l1, if_neg (by omega)]; rfl
  | m + 1, k, C, R, left, hl, h64, hC, hk => by
    obtain ⟨k, rfl⟩ : ∃ i, k = i + 1 := ⟨k - 1, by omega⟩
    rw [tontineref11_Counts.l1, if_pos (by omega)]
    have h2 := ref_l2 n hn h6 C R left (fun j hj => by have := hC j hj; omega) (by omega) k 1 (by omega) (by omega) (by omega)
    rw [gr_one] at h2
    rw [show ((0 : Nat) : Int) = 0 from rfl, show ((1 : Nat) : Int) = 1 from rfl] at h2
    rw [h2]
    have ih := ref_l1 n hn h6 m (k - (n - 1) - 1) (upd C (gr R n) (C (gr R n) + 1)) (upd R (gr R n) (-1)) (left - 1) (by omega) (by omega) (fun j hj => by
      have h0 := hC j hj
      have h3 := hC _ (gr_lt R n hn)
      unfold upd; split <;> omega) (by omega)
    rw [ih]
    have e : ∀ m s, run n m (stepS n s) = stepS n (run n m s) := by
      intro m
      induction m with
      | zero => intro s; rfl
      | succ m im => intro s; simp only [run]; rw [im]
    have := e m (C, R)
    simp only [stepS] at this
    rw [this]
    rfl

theorem run_congr {n : Nat} : ∀ m (s t : St), (∀ j, j < n → s.1 j = t.1 j ∧ s.2 j = t.2 j) → 0 < n → ∀ j, j < n → (run n m s).1 j = (run n m t).1 j ∧ (run n m s).2 j = (run n m t).2 j
  | 0, s, t, h, _, j, hj => h j hj
  | m + 1, s, t, h, hn, j, hj => by
    have ih := run_congr m s t h hn
    have hg : ∀ k, k ≤ n → gr (run n m s).2 k = gr (run n m t).2 k := by
      intro k
      induction k with
      | zero => intro _; rfl
      | succ k ik =>
        intro hk
        have i1 := ik (by omega)
        have i2 := (ih _ (gr_le (run n m t).2 k n (by omega) hn)).2
        have i3 := (ih k (by omega)).2
        simp only [gr]
        rw [i1, i2, i3]
    have e := hg n (Nat.le_refl _)
    have hgl := gr_lt (run n m t).2 n hn
    simp only [run, stepS, upd]
    rw [e, (ih _ hgl).1]
    have := ih j hj
    constructor
    · split
      · rfl
      · exact this.1
    · split
      · rfl
      · exact this.2

theorem ref_l0 (f all : Int) (l : List Int) (h0 : 0 < l.length) (h6 : l.length ≤ 6) (hf : 1 ≤ f ∧ f ≤ 64) (ha : 1 ≤ all ∧ all ≤ 6000) (hb : ∀ j, j < l.length → 0 ≤ X l j ∧ X l j ≤ 1000)
    (hq : ∀ j, j < l.length → 0 ≤ Qs f all (X l) j ∧ Qs f all (X l) j ≤ 64) (ht : totN (Qs f all (X l)) l.length ≤ f) : ∀ (k j : Nat) (C R : Nat → Int), j ≤ l.length → l.length - j + 600 < k →
    (∀ i, i < j → C i = Qs f all (X l) i ∧ R i = Rs f all (X l) i) →
    tontineref11_Counts.l0 k f l all (tab l.length C) (tab l.length R) (j : Int) = some (tab l.length (shC f l.length (X l) all))
  | 0, j, C, R, _, hk, _ => by omega
  | k + 1, j, C, R, hj, hk, hok => by
    rw [tontineref11_Counts.l0, tab_len, tab_len]
    by_cases hlt : j < l.length
    · have ⟨b0, b1⟩ := hb j hlt
      have p0 : 0 ≤ f * X l j := Int.mul_nonneg (by omega) b0
      have p1 : f * X l j ≤ 64 * 1000 := Int.le_trans (Int.mul_le_mul_of_nonneg_right hf.2 b0) (by omega)
      have hqj := hq j hlt
      have e1 : f * X l j / all = Qs f all (X l) j := rfl
      have e2 : f * X l j % all = Rs f all (X l) j := rfl
      rw [if_pos (by omega), if_pos (by omega), if_neg (by omega), if_pos (by omega), if_pos (by omega), X_at, w64 (n := f * X l j) (by omega) (by omega), Int.tdiv_eq_ediv_of_nonneg p0, Int.tmod_eq_emod_of_nonneg p0, e1, e2,
        w64 (n := Qs f all (X l) j) (by omega) (by omega), w64 (by omega) (by omega), Int.toNat_natCast, tab_set, tab_set]
      exact ref_l0 f all l h0 h6 hf ha hb hq ht k (j + 1) _ _ (by omega) (by omega) (fun i hi => by
        unfold upd
        by_cases e : i = j
        · subst e; simp
        · rw [if_neg e, if_neg e]; exact hok i (by omega))
    · obtain rfl : j = l.length := by omega
      rw [if_neg (by omega)]
      have eC : tab l.length C = tab l.length (Qs f all (X l)) := tab_congr (fun i hi => (hok i hi).1)
      have eR : tab l.length R = tab l.length (Rs f all (X l)) := tab_congr (fun i hi => (hok i hi).2)
      rw [eC, eR, total_f _ k (by rw [tab_len]; omega) (by rw [tab_len]; omega) (fun i hi => by
        rw [tab_len] at hi
        rw [tab_X _ _ hi]
        have := hq i hi; omega)]
      have et : totN (X (tab l.length (Qs f all (X l)))) (tab l.length (Qs f all (X l))).length = totN (Qs f all (X l)) l.length := by
        rw [tab_len]; exact totN_congr (fun i hi => tab_X _ _ hi)
      have hb2 := totQ_bounds hq
      show tontineref11_Counts.l1 k _ _ _ = _
      rw [et, w64 (by omega) (by omega)]
      have := ref_l1 l.length h0 h6 (f - totN (Qs f all (X l)) l.length).toNat k (Qs f all (X l)) (Rs f all (X l)) _ rfl (by omega) (fun j hj => by have := hq j hj; omega) (by omega)
      rw [show ((f - totN (Qs f all (X l)) l.length).toNat : Int) = f - totN (Qs f all (X l)) l.length by omega] at this
      exact this
end Go.Proofs.Ytfghfmlhoelbkaa
