/-
  The sum of the shares, and share.Counts, by contracts.
-/
import Derived.Test.YtfghfmlhoelbkaaShareC
namespace Go.Proofs.Ytfghfmlhoelbkaa
open Go.RowKit Go.Proofs.YtfghfmlhoelbkaaW.PrintWords Go.Proofs.Ytfghfmlhoelbkaa.PShareTells
set_option linter.unusedSimpArgs false
set_option linter.unusedVariables false
attribute [local go_sem] run_store_complex

def okB (Y : Nat → Int) : Nat → Bool
  | 0 => true
  | k + 1 => okB Y k && decide (0 ≤ Y k) && decide (Y k ≤ 1000)
theorem okB_at {Y : Nat → Int} : ∀ {n : Nat}, okB Y n = true → ∀ j, j < n → 0 ≤ Y j ∧ Y j ≤ 1000
  | 0, _, j, hj => by omega
  | n + 1, h, j, hj => by
    simp only [okB, Bool.and_eq_true, decide_eq_true_eq] at h
    by_cases e : j = n
    · subst e; exact ⟨h.1.2, h.2⟩
    · exact okB_at h.1.1 j (by omega)
theorem okB_of {Y : Nat → Int} : ∀ {n : Nat}, (∀ j, j < n → 0 ≤ Y j ∧ Y j ≤ 1000) → okB Y n = true
  | 0, _ => rfl
  | n + 1, h => by
    have := h n (by omega)
    have ih : okB Y n = true := okB_of (fun j hj => h j (by omega))
    simp only [okB, ih, this.1, this.2, decide_true, Bool.and_self]
theorem okB_not {Y : Nat → Int} {n : Nat} (j : Nat) (hj : j < n) (h : ¬ (0 ≤ Y j ∧ Y j ≤ 1000)) : okB Y n = false := by
  cases e : okB Y n
  · rfl
  · exact absurd (okB_at e j hj) h
theorem totN_bounds {Y : Nat → Int} : ∀ {n : Nat}, okB Y n = true → 0 ≤ totN Y n ∧ totN Y n ≤ n * 1000
  | 0, _ => by simp [totN]
  | n + 1, h => by
    have h' := h
    simp only [okB, Bool.and_eq_true, decide_eq_true_eq] at h
    have := totN_bounds h.1.1
    simp only [totN]; omega

def may (f : Int) (n : Nat) (Y : Nat → Int) : Prop := 1 ≤ f ∧ f ≤ 64 ∧ 1 ≤ n ∧ n ≤ 6 ∧ okB Y n = true
instance (f : Int) (n : Nat) (Y : Nat → Int) : Decidable (may f n Y) := by unfold may; infer_instance
/-- All shares together; 0: they may not be so. -/
def shSum (f : Int) (n : Nat) (Y : Nat → Int) : Int := if may f n Y then totN Y n else 0
theorem shSum_bounds (f : Int) (n : Nat) (Y : Nat → Int) : 0 ≤ shSum f n Y ∧ shSum f n Y ≤ 6000 := by
  unfold shSum; split
  · rename_i h
    have := totN_bounds h.2.2.2.2
    have := h.2.2.2.1
    omega
  · omega

theorem w64 {n : Int} (h0 : -9223372036854775808 ≤ n) (h1 : n ≤ 9223372036854775807) : wrap64 n = n := IntWalk.wrap64_in n ⟨h0, h1⟩

theorem sum_l0 (l : List Int) (h6 : l.length ≤ 6) : ∀ (k j : Nat), j ≤ l.length → l.length - j < k → okB (X l) j = true →
    share_sum.l0 k (totN (X l) j) l (l.length : Int) (j : Int) = some (if okB (X l) l.length = true then totN (X l) l.length else 0)
  | 0, j, _, hk, _ => by omega
  | k + 1, j, hj, hk, hok => by
    unfold share_sum.l0
    have hb := totN_bounds hok
    by_cases hlt : j < l.length
    · rw [if_pos (by omega), if_pos (by omega), if_pos (by omega)]
      have e : rd l (j : Int) = X l j := rfl
      rw [e]
      by_cases a1 : 0 ≤ X l j
      · rw [if_neg (by omega)]
        by_cases a2 : X l j ≤ 1000
        · rw [if_neg (by omega)]
          have ih := sum_l0 l h6 k (j + 1) (by omega) (by omega) (by simp [okB, hok, a1, a2])
          rw [w64 (by omega) (by omega), w64 (by omega) (by omega)]
          exact ih
        · rw [if_pos (by omega), okB_not j hlt (by omega)]; rfl
      · rw [if_pos (by omega), okB_not j hlt (by omega)]; rfl
    · obtain rfl : j = l.length := by omega
      rw [if_neg (by omega), if_pos hok]

theorem sum_f (f : Int) (l : List Int) (k : Nat) (hk : 10 ≤ k) : share_sum.f k f l = some (shSum f l.length (X l)) := by
  obtain ⟨k, rfl⟩ : ∃ m, k = m + 2 := ⟨k - 2, by omega⟩
  have hj : ∀ k, share_sum.j0 (k + 1) l true = some 0 := fun k => rfl
  unfold share_sum.f
  by_cases h1 : 1 ≤ f
  case neg => rw [if_pos (by omega), hj, shSum, if_neg (by unfold may; omega)]
  rw [if_neg (by omega)]
  by_cases h2 : f ≤ 64
  case neg => rw [if_pos (by omega), hj, shSum, if_neg (by unfold may; omega)]
  rw [if_neg (by omega)]
  by_cases h3 : 1 ≤ l.length
  case neg => rw [if_pos (by omega), hj, shSum, if_neg (by unfold may; omega)]
  rw [if_neg (by omega)]
  by_cases h4 : l.length ≤ 6
  case neg =>
    have : decide ((l.length : Int) > 6) = true := by simp; omega
    rw [this, hj, shSum, if_neg (by unfold may; omega)]
  have : decide ((l.length : Int) > 6) = false := by simp; omega
  rw [this]
  show share_sum.l0 (k + 1) 0 l (l.length : Int) 0 = _
  have := sum_l0 l h4 (k + 1) 0 (by omega) (by omega) rfl
  rw [show totN (X l) 0 = 0 from rfl] at this
  rw [show ((0 : Nat) : Int) = 0 from rfl] at this
  rw [this]
  unfold shSum may
  simp [h1, h2, h3, h4]

theorem sum_any (w : World) (f : Int) (P : Option Addr) (l : List Int) (c : Nat) (hl : Kd.C (Kd.int .i64) w P l.length l) (hc : l.length ≤ c) :
    Calls Try.prog 14 #[.int .i64 f, .slice P l.length c] w fun e w' => e = .returned (.int .i64 (shSum f l.length (X l))) ∧ ∃ n, w' = w.drewN n := by
  refine (share_sum.calls 10 f P c l _ w hl hc (sum_f f l 10 (by omega))).mono ?_
  rintro e w' ⟨h1, h2⟩
  exact ⟨h1, h2.out⟩

abbrev St := (Nat → Int) × (Nat → Int)
def stepS (n : Nat) (s : St) : St := (upd s.1 (gr s.2 n) (s.1 (gr s.2 n) + 1), upd s.2 (gr s.2 n) (-1))
def run (n : Nat) : Nat → St → St
  | 0, s => s
  | m + 1, s => stepS n (run n m s)
theorem run_small {n : Nat} {s : St} (h0 : ∀ j, j < n → 0 ≤ s.1 j ∧ s.1 j ≤ 64 ∧ 0 ≤ s.2 j ∧ s.2 j ≤ 1000000) : ∀ m, ∀ j, j < n → 0 ≤ (run n m s).1 j ∧ (run n m s).1 j ≤ 64 + m ∧ -1 ≤ (run n m s).2 j ∧ (run n m s).2 j ≤ 1000000
  | 0, j, hj => by have := h0 j hj; simp only [run]; omega
  | m + 1, j, hj => by
    have hn : 0 < n := by omega
    have h1 := run_small h0 m j hj
    have h2 := run_small h0 m _ (gr_lt (run n m s).2 n hn)
    simp only [run, stepS, upd]
    split <;> omega

def tab (n : Nat) (C : Nat → Int) : List Int := (List.range n).map C
theorem tab_len (n : Nat) (C : Nat → Int) : (tab n C).length = n := by simp [tab]
theorem tab_succ (n : Nat) (C : Nat → Int) : tab (n + 1) C = tab n C ++ [C n] := by unfold tab; rw [List.range_succ, List.map_append]; rfl

/-- The counts, and what is left of the shares' rests. -/
def shC (f : Int) (n : Nat) (Y : Nat → Int) (all : Int) : Nat → Int :=
  (run n (f - totN (Qs f all Y) n).toNat (Qs f all Y, Rs f all Y)).1
def cnt (f : Int) (l : List Int) : List Int :=
  if shSum f l.length (X l) = 0 then [] else tab l.length (shC f l.length (X l) (shSum f l.length (X l)))
end Go.Proofs.Ytfghfmlhoelbkaa
