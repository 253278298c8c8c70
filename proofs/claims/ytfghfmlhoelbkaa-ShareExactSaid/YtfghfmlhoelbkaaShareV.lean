/-
  What the walks of the statements over shares have in common: rows that a statement makes, two of them side by side, and the counts of such rows.
-/
import Derived.Test.YtfghfmlhoelbkaaShareT
import Derived.Test.YtfghfmlhoelbkaaShareLb
import Derived.Deep.AppendLies
import Derived.OpenShut
namespace Go.Proofs.Ytfghfmlhoelbkaa
open Go.RowKit Go.Proofs.YtfghfmlhoelbkaaW.PrintWords
set_option linter.unusedSimpArgs false
set_option linter.unusedVariables false

theorem okB_congr {C D : Nat → Int} : ∀ {n : Nat}, (∀ j, j < n → C j = D j) → okB C n = okB D n
  | 0, _ => rfl
  | n + 1, h => by simp only [okB]; rw [okB_congr (fun j hj => h j (Nat.lt_succ_of_lt hj)), h n (by omega)]
theorem shSum_congr {f : Int} {n : Nat} {C D : Nat → Int} (h : ∀ j, j < n → C j = D j) : shSum f n C = shSum f n D := by
  have hi : may f n C ↔ may f n D := by unfold may; rw [okB_congr h]
  unfold shSum
  by_cases hm : may f n C
  · rw [if_pos hm, if_pos (hi.1 hm), totN_congr h]
  · rw [if_neg hm, if_neg (fun k => hm (hi.2 k))]
theorem shC_congr {f all : Int} {n : Nat} {C D : Nat → Int} (hn : 0 < n) (h : ∀ j, j < n → C j = D j) : ∀ j, j < n → shC f n C all j = shC f n D all j := by
  intro j hj
  unfold shC
  have hq : ∀ j, j < n → Qs f all C j = Qs f all D j := fun j hj => by unfold Qs; rw [h j hj]
  have hr : ∀ j, j < n → Rs f all C j = Rs f all D j := fun j hj => by unfold Rs; rw [h j hj]
  rw [totN_congr hq]
  exact (run_congr _ _ _ (fun j hj => ⟨hq j hj, hr j hj⟩) hn j hj).1

def cntN (f : Int) (n : Nat) (Y : Nat → Int) : List Int := if shSum f n Y = 0 then [] else tab n (shC f n Y (shSum f n Y))
theorem cnt_tab (f : Int) (n : Nat) (C : Nat → Int) : cnt f (tab n C) = cntN f n C := by
  have hX : ∀ j, j < n → X (tab n C) j = C j := fun j hj => tab_X n C hj
  unfold cnt cntN
  rw [tab_len, shSum_congr hX]
  by_cases hz : shSum f n C = 0
  · rw [if_pos hz, if_pos hz]
  · rw [if_neg hz, if_neg hz]
    exact tab_congr (shC_congr (by have := (may_of hz).2.2.1; omega) hX)
theorem cntN_congr {f : Int} {n : Nat} {C D : Nat → Int} (h : ∀ j, j < n → C j = D j) : cntN f n C = cntN f n D := by
  rw [← cnt_tab, ← cnt_tab, tab_congr h]

def ints (n : Nat) (C : Nat → Int) : List Value := (tab n C).map (Value.int .i64)
theorem ints_succ (n : Nat) (C : Nat → Int) : ints (n + 1) C = ints n C ++ [.int .i64 (C n)] := by unfold ints; rw [tab_succ, List.map_append]; rfl
theorem ints_zero (C : Nat → Int) : ints 0 C = [] := rfl

/-- A row of n numbers that the call has made reads as such. -/
theorem row_C {w : World} {B n : Nat} {v : Value} {C : Nat → Int} (h : w.ownsRow B 3 1 v n (ints n C)) : ∃ A c, v = .slice A n c ∧ n ≤ c ∧ Kd.C (Kd.int .i64) w A n (tab n C) := by
  have hR : Kd.R (Kd.int .i64) 3 w B (fun _ => True) v (tab n C) := Kd.R_of_own (by rw [tab_len]; exact h) (fun _ _ => trivial)
  obtain ⟨A, c, hv, hc, hC⟩ := Kd.R_reads hR
  rw [tab_len] at hv hc hC
  exact ⟨A, c, hv, hc, hC⟩

theorem counts_tab (W : World) (f : Int) (P : Option Addr) (n c : Nat) (C : Nat → Int) (h : Kd.C (Kd.int .i64) W P n (tab n C)) (hc : n ≤ c) :
    Calls Try.prog 10 #[.int .i64 f, .slice P n c] W fun e w' => ∃ A c', e = .returned (.slice A (cntN f n C).length c') ∧ (cntN f n C).length ≤ c' ∧ Kd.C (Kd.int .i64) w' A (cntN f n C).length (cntN f n C) ∧ Below W.heap.size W w' := by
  have := counts_any W f P (tab n C) c
  rw [tab_len, cnt_tab] at this
  refine (this h hc).mono ?_
  rintro e w' ⟨v, rfl, hR, hb⟩
  obtain ⟨A, c', rfl, hcl, hC⟩ := Kd.R_reads hR
  exact ⟨A, c', rfl, hcl, hC, hb⟩

/-- No block is both of v and of u. -/
def Apart (v u : Value) : Prop := ∀ x, v.ownBlock = some x → u.ownBlock ≠ some x

theorem Apart.kept {v u : Value} (h : Apart v u) : u.ownBlock = none ∨ u.ownBlock ≠ v.ownBlock := by
  cases hu : u.ownBlock with
  | none => exact Or.inl rfl
  | some x => exact Or.inr fun e => h x e.symm hu
theorem Apart.swap {v u : Value} (h : Apart v u) : Apart u v := fun x hx hv => h x hv hx
/-- Behind an append: v's new block is its own, or new. -/
theorem Apart.grow {w : World} {v u : Value} {g n cap B e s : Nat} {m : Nat} {xs : List Value} (h : Apart v u) (hu : w.ownsRow B e s u m xs) (hat : v.ownBlock = some g ∨ g = w.heap.size + 1) : Apart (.slice (some ⟨g, 0, none⟩) n cap) u := by
  intro x hx hux
  simp [Value.ownBlock] at hx
  subst hx
  rcases hat with h1 | h1
  · exact h _ h1 hux
  · have := (hu.lt _ hux).2; omega

theorem X_u8 {l : List Int} (h : ∀ x ∈ l, (Lit.int .u8 x).wf = true) {j : Nat} (hj : j < l.length) : 0 ≤ X l j ∧ X l j ≤ 255 := by
  rw [X_get l hj]; exact bounds_u8 (h _ (List.getElem_mem hj))
theorem X_u16 {l : List Int} (h : ∀ x ∈ l, (Lit.int .u16 x).wf = true) {j : Nat} (hj : j < l.length) : 0 ≤ X l j ∧ X l j ≤ 65535 := by
  rw [X_get l hj]; exact bounds_u16 (h _ (List.getElem_mem hj))
end Go.Proofs.Ytfghfmlhoelbkaa
