/-
  Plain laws of ledgers: what all accounts together come to.
-/
import Derived.Test.YtomadecehklbmaaLedgerK
namespace Go.Proofs.Ytomadecehklbmaa
open Go.RowKit
set_option linter.unusedSimpArgs false
set_option linter.unusedVariables false

theorem Acc.ext' {a b : Acc} (h1 : a.own = b.own) (h2 : a.got = b.got) (h3 : a.idle = b.idle) (h4 : a.freed = b.freed) : a = b := by
  cases a; cases b; simp_all

theorem sumA_put_past (A : Nat → Acc) (k : Nat) (a : Acc) : ∀ n, n ≤ k → sumA (put A k a) n = sumA A n
  | 0, _ => rfl
  | n + 1, h => by
    have hn : ¬ n = k := by omega
    simp only [sumA, sumA_put_past A k a n (by omega), put, if_neg hn]

theorem sumA_put (A : Nat → Acc) (k : Nat) (x y u v : Int) : ∀ n, k < n → sumA (put A k ((A k).plus x y u v)) n = (sumA A n).plus x y u v
  | 0, h => by omega
  | n + 1, h => by
    by_cases hn : k = n
    · subst hn
      have : put A k ((A k).plus x y u v) k = (A k).plus x y u v := by simp [put]
      simp only [sumA, sumA_put_past A k _ k (Nat.le_refl k), this]
      apply Acc.ext' <;> simp only [Acc.plus] <;> omega
    · have h1 : ¬ n = k := by omega
      have : put A k ((A k).plus x y u v) n = A n := by simp [put, h1]
      simp only [sumA, sumA_put A k x y u v n (by omega), this]
      apply Acc.ext' <;> simp only [Acc.plus] <;> omega

theorem sumA_add (A : Nat → Acc) (n : Nat) (d x y u v : Int) : sumA (addA A n d x y u v) n = if 0 ≤ d ∧ d < n then (sumA A n).plus x y u v else sumA A n := by
  unfold addA
  split
  · rw [sumA_put A d.toNat x y u v n (by omega)]
  · rfl

/-- A row of steps: owner, freed, winner. -/
def ledS (S : Nat → Int × Int × Int) : Nat → Nat → Acc
  | 0 => fun _ => Acc.zero
  | k + 1 => cntA (ledS S k) 6 (S k).1 (S k).2.1 (S k).2.2
abbrev in6 (d : Int) : Prop := 0 ≤ d ∧ d < 6
def cntN (S : Nat → Int × Int × Int) : Nat → Int
  | 0 => 0
  | k + 1 => cntN S k + if in6 (S k).1 then 1 else 0
def cntH (S : Nat → Int × Int × Int) : Nat → Int
  | 0 => 0
  | k + 1 => cntH S k + if in6 (S k).1 ∧ in6 (S k).2.2 then 1 else 0

theorem cntN_bounds (S : Nat → Int × Int × Int) : ∀ k : Nat, 0 ≤ cntN S k ∧ cntN S k ≤ k
  | 0 => by simp [cntN]
  | k + 1 => by have := cntN_bounds S k; simp only [cntN]; split <;> omega
theorem cntH_bounds (S : Nat → Int × Int × Int) : ∀ k : Nat, 0 ≤ cntH S k ∧ cntH S k ≤ k
  | 0 => by simp [cntH]
  | k + 1 => by have := cntH_bounds S k; simp only [cntH]; split <;> omega

theorem sums_inv (S : Nat → Int × Int × Int) : ∀ k : Nat, (sumA (ledS S k) 6).own + (sumA (ledS S k) 6).idle = cntN S k ∧ (sumA (ledS S k) 6).own + (sumA (ledS S k) 6).got = cntH S k ∧ (sumA (ledS S k) 6).got ≤ (sumA (ledS S k) 6).idle
  | 0 => by simp [ledS, sumA, cntN, cntH, Acc.zero, Acc.plus]
  | k + 1 => by
    have ih := sums_inv S k
    simp only [ledS, cntN, cntH]
    generalize hs : S k = s at *
    obtain ⟨o, f, wi⟩ := s
    unfold cntA in6
    dsimp only
    by_cases ho : 0 ≤ o ∧ o < ((6 : Nat) : Int)
    · have ho' : 0 ≤ o ∧ o < 6 := ho
      rw [if_pos ho, if_pos ho']
      simp only [sumA_add]
      by_cases hw : wi = o
      · subst hw
        simp only [if_true, if_pos ho, if_pos ho', and_self, sumA_add]
        split <;> simp only [Acc.plus] <;> omega
      · simp only [if_neg hw, sumA_add, if_pos ho]
        by_cases hwi : 0 ≤ wi ∧ wi < 6
        · have hwi' : 0 ≤ wi ∧ wi < ((6 : Nat) : Int) := hwi
          simp only [if_pos hwi', if_pos (And.intro ho' hwi)]
          split <;> simp only [Acc.plus] <;> omega
        · have hwi' : ¬ (0 ≤ wi ∧ wi < ((6 : Nat) : Int)) := hwi
          simp only [if_neg hwi', if_neg (fun h : (0 ≤ o ∧ o < 6) ∧ (0 ≤ wi ∧ wi < 6) => hwi h.2)]
          split <;> simp only [Acc.plus] <;> omega
    · have ho' : ¬ (0 ≤ o ∧ o < 6) := ho
      rw [if_neg ho, if_neg ho', if_neg (fun h : (0 ≤ o ∧ o < 6) ∧ (0 ≤ wi ∧ wi < 6) => ho' h.1)]
      omega

def clkS (A : Nat → Acc) : Nat → Int
  | 0 => 0
  | j + 1 => clkS A j + ((A j).own + (A j).got)
theorem clkS_sum (A : Nat → Acc) : ∀ j, clkS A j = (sumA A j).own + (sumA A j).got
  | 0 => rfl
  | j + 1 => by simp only [clkS, sumA, Acc.plus, clkS_sum A j]; omega

/-- Steps that lie in memory, from off on in block bs. -/
def StepsAt (w : World) (bs off n : Nat) (S : Nat → Int × Int × Int) : Prop :=
  bs < w.heap.size ∧ ∀ k, k < n → w.cell? ⟨bs, off + k * 3, none⟩ = some (.int .i64 (S k).1) ∧ w.cell? ⟨bs, off + k * 3 + 1, none⟩ = some (.int .i64 (S k).2.1) ∧ w.cell? ⟨bs, off + k * 3 + 2, none⟩ = some (.int .i64 (S k).2.2)

theorem StepsAt.below {w w' : World} {bs off n : Nat} {S : Nat → Int × Int × Int} (h : StepsAt w bs off n S) (hb : Below w.heap.size w w') : StepsAt w' bs off n S :=
  ⟨Nat.lt_of_lt_of_le h.1 hb.size, fun k hk => by
    obtain ⟨a, b, c⟩ := h.2 k hk
    exact ⟨(hb.cell h.1).trans a, (hb.cell h.1).trans b, (hb.cell h.1).trans c⟩⟩

end Go.Proofs.Ytomadecehklbmaa
