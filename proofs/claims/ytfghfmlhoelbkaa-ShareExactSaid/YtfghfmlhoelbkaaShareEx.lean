/-
  The document's Counts and both Exacts, in plain terms; and all of them by contracts.
-/
import Derived.Test.YtfghfmlhoelbkaaSharePu
namespace Go.Proofs.Ytfghfmlhoelbkaa
open Go.RowKit Go.Proofs.YtfghfmlhoelbkaaW.PrintWords Go.Proofs.Ytfghfmlhoelbkaa.PShareTells
set_option linter.unusedSimpArgs false
set_option linter.unusedVariables false
set_option linter.unusedSectionVars false

theorem floors (f all : Int) (Y : Nat → Int) : ∀ n, totN (Qs f all Y) n * all + totN (Rs f all Y) n = f * totN Y n
  | 0 => by simp [totN]
  | n + 1 => by
    have ih := floors f all Y n
    have h := Int.mul_ediv_add_emod (f * Y n) all
    simp only [totN, Int.add_mul, Int.mul_add]
    have e1 : Qs f all Y n * all = all * (f * Y n / all) := by unfold Qs; rw [Int.mul_comm]
    have e2 : Rs f all Y n = f * Y n % all := rfl
    rw [e1, e2]; omega

theorem rests_nonneg (f all : Int) (Y : Nat → Int) (h : 1 ≤ all) : ∀ n, 0 ≤ totN (Rs f all Y) n
  | 0 => by simp [totN]
  | n + 1 => by
    have := rests_nonneg f all Y h n
    have := Int.emod_nonneg (f * Y n) (show all ≠ 0 by omega)
    have e : Rs f all Y n = f * Y n % all := rfl
    simp only [totN]; omega

theorem floors_le {f all : Int} {Y : Nat → Int} {n : Nat} (h : 1 ≤ all) (ht : totN Y n = all) : totN (Qs f all Y) n ≤ f := by
  have h1 := floors f all Y n
  have h2 := rests_nonneg f all Y h n
  rw [ht] at h1
  exact Int.le_of_mul_le_mul_right (a := all) (by omega) (by omega)

theorem shSum_pos {f : Int} {n : Nat} {Y : Nat → Int} (h : ¬ shSum f n Y = 0) : may f n Y ∧ shSum f n Y = totN Y n ∧ 1 ≤ totN Y n ∧ totN Y n ≤ 6000 := by
  have hm := may_of h
  have ⟨a, b⟩ := shSum_bounds f n Y
  have e : shSum f n Y = totN Y n := by unfold shSum; rw [if_pos hm]
  exact ⟨hm, e, by omega, by omega⟩

theorem refcounts_f (f : Int) (l : List Int) (k : Nat) (hk : 700 ≤ k) : tontineref11_Counts.f k f l = some (cnt f l) := by
  unfold tontineref11_Counts.f
  rw [may_f f l k (by omega)]
  have ⟨s0, _⟩ := shSum_bounds f l.length (X l)
  simp only [Option.bind_some]
  by_cases hz : shSum f l.length (X l) = 0
  · rw [if_neg (by simp [hz])]
    unfold cnt; rw [if_pos hz]
  · obtain ⟨⟨m1, m2, m3, m4, m5⟩, e, p1, p2⟩ := shSum_pos hz
    rw [if_pos (by simp; omega), total_f l k (by omega) (by omega) (okB_at m5)]
    simp only [Option.bind_some]
    rw [if_pos (by omega), if_pos (by omega), Int.toNat_natCast, tab_rep]
    have hps := parts_small (f := f) (all := totN (X l) l.length) ⟨m1, m2, m3, m4, m5⟩ p1 p2 (le_totN m5)
    have := ref_l0 f (totN (X l) l.length) l (by omega) m4 ⟨m1, m2⟩ ⟨p1, p2⟩ (okB_at m5) (fun j hj => ⟨(hps j hj).1, (hps j hj).2.1⟩) (floors_le p1 rfl) k 0 (fun _ => 0) (fun _ => 0) (by omega) (by omega) (fun i hi => by omega)
    rw [show ((0 : Nat) : Int) = 0 from rfl] at this
    rw [this]
    unfold cnt; rw [if_neg hz, e]

/-- Are the first n counts each as near as can be? -/
def exOk (f all : Int) (Y M : Nat → Int) : Nat → Bool
  | 0 => true
  | k + 1 => exOk f all Y M k && decide (0 ≤ M k) && decide (M k ≤ f) && decide (-all < M k * all - f * Y k) && decide (M k * all - f * Y k < all)
theorem exOk_at {f all : Int} {Y M : Nat → Int} : ∀ {n : Nat}, exOk f all Y M n = true → ∀ j, j < n → 0 ≤ M j ∧ M j ≤ f ∧ -all < M j * all - f * Y j ∧ M j * all - f * Y j < all
  | 0, _, j, hj => by omega
  | n + 1, h, j, hj => by
    simp only [exOk, Bool.and_eq_true, decide_eq_true_eq] at h
    by_cases e : j = n
    · subst e; exact ⟨h.1.1.1.2, h.1.1.2, h.1.2, h.2⟩
    · exact exOk_at h.1.1.1.1 j (by omega)
theorem exOk_of {f all : Int} {Y M : Nat → Int} : ∀ {n : Nat}, (∀ j, j < n → 0 ≤ M j ∧ M j ≤ f ∧ -all < M j * all - f * Y j ∧ M j * all - f * Y j < all) → exOk f all Y M n = true
  | 0, _ => rfl
  | n + 1, h => by
    have h1 := h n (by omega)
    have ih : exOk f all Y M n = true := exOk_of (fun j hj => h j (by omega))
    simp only [exOk, ih, h1.1, h1.2.1, h1.2.2.1, h1.2.2.2, decide_true, Bool.and_self]
theorem exOk_not {f all : Int} {Y M : Nat → Int} {n : Nat} (j : Nat) (hj : j < n) (h : ¬ (0 ≤ M j ∧ M j ≤ f ∧ -all < M j * all - f * Y j ∧ M j * all - f * Y j < all)) : exOk f all Y M n = false := by
  cases e : exOk f all Y M n
  · rfl
  · exact absurd (exOk_at e j hj) h
def exB (f : Int) (l m : List Int) : Bool :=
  !decide (shSum f l.length (X l) = 0) && decide (m.length = l.length) && exOk f (shSum f l.length (X l)) (X l) (X m) l.length && decide (totN (X m) l.length = f)

theorem exOk_sum {f all : Int} {Y M : Nat → Int} (hf : f ≤ 64) : ∀ {n : Nat}, exOk f all Y M n = true → 0 ≤ totN M n ∧ totN M n ≤ 64 * n
  | 0, _ => by simp [totN]
  | n + 1, h => by
    have h1 := exOk_at h n (by omega)
    have h2 := exOk_sum (n := n) hf (exOk_of (fun j hj => exOk_at h j (by omega)))
    simp only [totN]; omega

section
variable (f all : Int) (l m : List Int) (h6 : l.length ≤ 6) (hl : m.length = l.length) (hf : 1 ≤ f ∧ f ≤ 64) (ha : 1 ≤ all ∧ all ≤ 6000) (hb : ∀ j, j < l.length → 0 ≤ X l j ∧ X l j ≤ 1000)
include h6 hl hf ha hb

theorem ex_terms {j : Nat} (hj : j < l.length) (h0 : 0 ≤ X m j) (h1 : X m j ≤ f) : 0 ≤ X m j * all ∧ X m j * all ≤ 384000 ∧ 0 ≤ f * X l j ∧ f * X l j ≤ 64000 := by
  have ⟨b0, b1⟩ := hb j hj
  exact ⟨Int.mul_nonneg h0 (by omega), Int.le_trans (Int.mul_le_mul h1 ha.2 (by omega) (by omega)) (by omega), Int.mul_nonneg (by omega) b0, Int.le_trans (Int.mul_le_mul_of_nonneg_right hf.2 b0) (by omega)⟩

theorem ex_l0 : ∀ (k j : Nat), j ≤ l.length → (l.length - j) * 2 < k → exOk f all (X l) (X m) j = true →
    share_Exact.l0 k f l all (f - totN (X m) j) m (m.length : Int) (j : Int) = some (exOk f all (X l) (X m) l.length && decide (totN (X m) l.length = f))
  | 0, j, _, hk, _ => by omega
  | k + 1, j, hj, hk, hok => by
    rw [share_Exact.l0, hl]
    have hs := exOk_sum hf.2 hok
    by_cases hlt : j < l.length
    · obtain ⟨k, rfl⟩ : ∃ i, k = i + 1 := ⟨k - 1, by omega⟩
      rw [if_pos (by omega), if_pos (by omega), if_pos (by omega), X_at]
      by_cases a1 : 0 ≤ X m j
      case neg =>
        rw [if_pos (by omega), exOk_not j hlt (by omega)]; rfl
      rw [if_neg (by omega)]
      by_cases a2 : X m j ≤ f
      case neg =>
        have : decide (X m j > f) = true := by simp; omega
        rw [this, exOk_not j hlt (by omega)]; rfl
      have : decide (X m j > f) = false := by simp; omega
      rw [this, share_Exact.j2, if_neg (by simp), if_pos (by omega), if_pos (by omega), X_at]
      have ⟨t0, t1, t2, t3⟩ := ex_terms f all l m h6 hl hf ha hb hlt a1 a2
      rw [w64 (n := X m j * all) (by omega) (by omega), w64 (n := f * X l j) (by omega) (by omega), w64 (n := X m j * all - f * X l j) (by omega) (by omega), w64 (n := -all) (by omega) (by omega)]
      by_cases a3 : -all < X m j * all - f * X l j
      case neg =>
        rw [if_pos (by omega), exOk_not j hlt (by omega)]; rfl
      rw [if_neg (by omega)]
      by_cases a4 : X m j * all - f * X l j < all
      case neg =>
        rw [if_pos (by omega), exOk_not j hlt (by omega)]; rfl
      rw [if_neg (by omega), w64 (n := f - totN (X m) j - X m j) (by omega) (by omega), w64 (n := (j : Int) + 1) (by omega) (by omega)]
      have ih := ex_l0 k (j + 1) (by omega) (by omega) (by simp [exOk, hok, a1, a2, a3, a4])
      rw [hl] at ih
      rw [show f - totN (X m) j - X m j = f - totN (X m) (j + 1) by simp only [totN]; omega]
      exact ih
    · obtain rfl : j = l.length := by omega
      rw [if_neg (by omega), hok]
      simp only [Bool.true_and, Option.some.injEq]
      rw [Bool.eq_iff_iff]; simp; omega

theorem rex_l0 (hT : totN (X l) l.length = all) : ∀ (k j : Nat), j ≤ l.length → (l.length - j) * 2 + 20 < k → exOk f all (X l) (X m) j = true →
    tontineref11_Exact.l0 k f l m (totN (X m) j) (j : Int) = some (exOk f all (X l) (X m) l.length && decide (totN (X m) l.length = f))
  | 0, j, _, hk, _ => by omega
  | k + 1, j, hj, hk, hok => by
    rw [tontineref11_Exact.l0, hl]
    have hs := exOk_sum hf.2 hok
    by_cases hlt : j < l.length
    · obtain ⟨k, rfl⟩ : ∃ i, k = i + 1 := ⟨k - 1, by omega⟩
      rw [if_pos (by omega), if_pos (by omega), X_at]
      by_cases a1 : 0 ≤ X m j
      case neg =>
        rw [if_pos (by omega), exOk_not j hlt (by omega)]; rfl
      rw [if_neg (by omega)]
      by_cases a2 : X m j ≤ f
      case neg =>
        have : decide (X m j > f) = true := by simp; omega
        rw [this, exOk_not j hlt (by omega)]; rfl
      have : decide (X m j > f) = false := by simp; omega
      rw [this, tontineref11_Exact.j2, if_neg (by simp), if_pos (by omega), hl, if_pos (by omega), total_f l k (by omega) (by omega) hb, hT, X_at, X_at]
      have ⟨t0, t1, t2, t3⟩ := ex_terms f all l m h6 hl hf ha hb hlt a1 a2
      simp only [Option.bind_some]
      rw [w64 (n := X m j * all) (by omega) (by omega), w64 (n := f * X l j) (by omega) (by omega), w64 (n := X m j * all - f * X l j) (by omega) (by omega), w64 (n := -(X m j * all - f * X l j)) (by omega) (by omega), if_pos (by omega)]
      by_cases a4 : X m j * all - f * X l j < all
      case neg =>
        rw [if_pos (by omega), exOk_not j hlt (by omega)]; rfl
      rw [if_neg (by omega)]
      by_cases a3 : -all < X m j * all - f * X l j
      case neg =>
        rw [if_pos (by omega), exOk_not j hlt (by omega)]; rfl
      rw [if_neg (by omega), w64 (n := totN (X m) j + X m j) (by omega) (by omega), w64 (n := (j : Int) + 1) (by omega) (by omega)]
      exact rex_l0 hT k (j + 1) (by omega) (by omega) (by simp [exOk, hok, a1, a2, a3, a4])
    · obtain rfl : j = l.length := by omega
      rw [if_neg (by omega), hok]
      simp only [Bool.true_and, Option.some.injEq]
      rw [Bool.eq_iff_iff]; simp
end

theorem exact_f (f : Int) (l m : List Int) (k : Nat) (hk : 50 ≤ k) : share_Exact.f k f l m = some (exB f l m) := by
  obtain ⟨k, rfl⟩ : ∃ i, k = i + 1 := ⟨k - 1, by omega⟩
  unfold share_Exact.f exB
  rw [sum_f f l (k + 1) (by omega)]
  simp only [Option.bind_some]
  by_cases hz : shSum f l.length (X l) = 0
  · rw [if_pos hz, decide_eq_true hz]; rfl
  rw [if_neg hz, decide_eq_false hz]
  obtain ⟨⟨m1, m2, m3, m4, m5⟩, e, p1, p2⟩ := shSum_pos hz
  by_cases hl : m.length = l.length
  case neg =>
    have : ((m.length : Int) != (l.length : Int)) = true := by simp; omega
    rw [this, decide_eq_false hl]; rfl
  have : ((m.length : Int) != (l.length : Int)) = false := by simp; omega
  rw [this, decide_eq_true hl, share_Exact.j0, if_neg (by simp)]
  have := ex_l0 f (shSum f l.length (X l)) l m m4 hl ⟨m1, m2⟩ (by omega) (okB_at m5) k 0 (by omega) (by omega) rfl
  rw [show ((0 : Nat) : Int) = 0 from rfl, show totN (X m) 0 = 0 from rfl, Int.sub_zero] at this
  rw [this]; simp

theorem refexact_f (f : Int) (l m : List Int) (k : Nat) (hk : 50 ≤ k) : tontineref11_Exact.f k f l m = some (exB f l m) := by
  obtain ⟨k, rfl⟩ : ∃ i, k = i + 1 := ⟨k - 1, by omega⟩
  unfold tontineref11_Exact.f exB
  rw [may_f f l (k + 1) (by omega)]
  simp only [Option.bind_some]
  have ⟨s0, _⟩ := shSum_bounds f l.length (X l)
  by_cases hz : shSum f l.length (X l) = 0
  · rw [if_neg (by simp; omega), decide_eq_true hz]; rfl
  rw [if_pos (by simp; omega), decide_eq_false hz]
  obtain ⟨⟨m1, m2, m3, m4, m5⟩, e, p1, p2⟩ := shSum_pos hz
  by_cases hl : m.length = l.length
  case neg =>
    have : ((m.length : Int) != (l.length : Int)) = true := by simp; omega
    rw [this, decide_eq_false hl]; rfl
  have : ((m.length : Int) != (l.length : Int)) = false := by simp; omega
  rw [this, decide_eq_true hl, tontineref11_Exact.j0, if_neg (by simp), e]
  have := rex_l0 f (totN (X l) l.length) l m m4 hl ⟨m1, m2⟩ (by omega) (okB_at m5) rfl k 0 (by omega) (by omega) rfl
  rw [show ((0 : Nat) : Int) = 0 from rfl, show totN (X m) 0 = 0 from rfl] at this
  rw [this]; simp

/-! the contracts -/
section
variable (w : World)
theorem refcounts_any (f : Int) (P : Option Addr) (l : List Int) (c : Nat) (hl : Kd.C (Kd.int .i64) w P l.length l) (hc : l.length ≤ c) :
    Calls Try.prog 11 #[.int .i64 f, .slice P l.length c] w fun e w' => ∃ v, e = .returned v ∧ Kd.R (Kd.int .i64) 3 w' w.heap.size (fun _ => True) v (cnt f l) ∧ Below w.heap.size w w' :=
  tontineref11_Counts.calls 700 f P c l _ w hl hc (refcounts_f f l 700 (by omega))
theorem exact_any (f : Int) (P : Option Addr) (l : List Int) (c : Nat) (P2 : Option Addr) (m : List Int) (c2 : Nat) (hl : Kd.C (Kd.int .i64) w P l.length l) (hc : l.length ≤ c) (hl2 : Kd.C (Kd.int .i64) w P2 m.length m) (hc2 : m.length ≤ c2) :
    Calls Try.prog 12 #[.int .i64 f, .slice P l.length c, .slice P2 m.length c2] w fun e w' => e = .returned (.bool (exB f l m)) ∧ ∃ n, w' = w.drewN n := by
  refine (share_Exact.calls 50 f P c l P2 c2 m _ w hl hc hl2 hc2 (exact_f f l m 50 (by omega))).mono ?_
  rintro e w' ⟨h1, h2⟩; exact ⟨h1, h2.out⟩
theorem refexact_any (f : Int) (P : Option Addr) (l : List Int) (c : Nat) (P2 : Option Addr) (m : List Int) (c2 : Nat) (hl : Kd.C (Kd.int .i64) w P l.length l) (hc : l.length ≤ c) (hl2 : Kd.C (Kd.int .i64) w P2 m.length m) (hc2 : m.length ≤ c2) :
    Calls Try.prog 13 #[.int .i64 f, .slice P l.length c, .slice P2 m.length c2] w fun e w' => e = .returned (.bool (exB f l m)) ∧ ∃ n, w' = w.drewN n := by
  refine (tontineref11_Exact.calls 50 f P c l P2 c2 m _ w hl hc hl2 hc2 (refexact_f f l m 50 (by omega))).mono ?_
  rintro e w' ⟨h1, h2⟩; exact ⟨h1, h2.out⟩
theorem same_any (P : Option Addr) (l : List Int) (c : Nat) (P2 : Option Addr) (m : List Int) (c2 : Nat) (hs : l.length ≤ 1000) (hl : Kd.C (Kd.int .i64) w P l.length l) (hc : l.length ≤ c) (hl2 : Kd.C (Kd.int .i64) w P2 m.length m) (hc2 : m.length ≤ c2) :
    Calls Try.prog 9 #[.slice P l.length c, .slice P2 m.length c2] w fun e w' => e = .returned (.bool (decide (l = m))) ∧ ∃ n, w' = w.drewN n := by
  refine (tontineref1_SameInts.calls (l.length + 1) P c l P2 c2 m _ w hl hc hl2 hc2 (same_f l m _ hs (by omega))).mono ?_
  rintro e w' ⟨h1, h2⟩; exact ⟨h1, h2.out⟩
end
end Go.Proofs.Ytfghfmlhoelbkaa
