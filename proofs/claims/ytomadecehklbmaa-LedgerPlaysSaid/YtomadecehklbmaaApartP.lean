/-
  Accounts in an array; who keeps his account at a quantum.
-/
import Derived.Test.YtomadecehklbmaaLedgerW
import Derived.StillTailTactics
import Derived.Deep.QuietTactic
import Derived.BigQuiet
namespace Go.Proofs.Ytomadecehklbmaa
open Go.RowKit
set_option linter.unusedSimpArgs false
set_option linter.unusedVariables false
def accCell (A : Nat → Acc) (j : Nat) : Value := .int .i64 (if j % 4 = 0 then (A (j / 4)).own else if j % 4 = 1 then (A (j / 4)).got else if j % 4 = 2 then (A (j / 4)).idle else (A (j / 4)).freed)
def wasCell (A : Nat → Acc) (d : Nat) (j : Nat) : Value := if j / 4 < d then accCell A j else .int .i64 0

theorem accCell_at (A : Nat → Acc) (k i : Nat) (h : i < 4) : accCell A (k * 4 + i) = .int .i64 (if i = 0 then (A k).own else if i = 1 then (A k).got else if i = 2 then (A k).idle else (A k).freed) := by
  unfold accCell
  rw [show (k * 4 + i) / 4 = k by omega, show (k * 4 + i) % 4 = i by omega]

theorem was_at (A : Nat → Acc) (k i : Nat) (hk : k < 6) (h : i < 4) : wasCell A 6 (k * 4 + i) = .int .i64 (if i = 0 then (A k).own else if i = 1 then (A k).got else if i = 2 then (A k).idle else (A k).freed) := by
  unfold wasCell
  rw [if_pos (by omega), accCell_at A k i h]

theorem was_new (w : World) (A : Nat → Acc) (T : TypeId) : (w.alloc (.cells #[.int .i64 0, .int .i64 0, .int .i64 0, .int .i64 0, .int .i64 0, .int .i64 0, .int .i64 0, .int .i64 0, .int .i64 0, .int .i64 0, .int .i64 0, .int .i64 0, .int .i64 0, .int .i64 0, .int .i64 0, .int .i64 0, .int .i64 0, .int .i64 0, .int .i64 0, .int .i64 0, .int .i64 0, .int .i64 0, .int .i64 0, .int .i64 0] T)).rowIs w.heap.size T 24 (wasCell A 0) := by
  have e : #[.int .i64 0, .int .i64 0, .int .i64 0, .int .i64 0, .int .i64 0, .int .i64 0, .int .i64 0, .int .i64 0, .int .i64 0, .int .i64 0, .int .i64 0, .int .i64 0, .int .i64 0, .int .i64 0, .int .i64 0, .int .i64 0, .int .i64 0, .int .i64 0, .int .i64 0, .int .i64 0, .int .i64 0, .int .i64 0, .int .i64 0, .int .i64 0] = Array.replicate 24 (Value.int .i64 0) := rfl
  rw [e]
  have := World.rowIs_alloc w (Array.replicate 24 (Value.int .i64 0)) T (wasCell A 0) (fun i hi => by
    have hi : i < 24 := by simpa using hi
    simp [wasCell, hi])
  simpa using this

theorem was_succ {w : World} {s T d : Nat} {A : Nat → Acc} (h : w.rowIs s T 24 (wasCell A d)) :
    ((((w.setCell ⟨s, d * 4, none⟩ (.int .i64 (A d).own)).setCell ⟨s, d * 4 + 1, none⟩ (.int .i64 (A d).got)).setCell ⟨s, d * 4 + 2, none⟩ (.int .i64 (A d).idle)).setCell ⟨s, d * 4 + 3, none⟩ (.int .i64 (A d).freed)).rowIs s T 24 (wasCell A (d + 1)) := by
  refine ((((h.set _ _).set _ _).set _ _).set _ _).congr fun j hj => ?_
  by_cases h3 : j = d * 4 + 3
  · rw [if_pos h3, h3, wasCell, if_pos (by omega), accCell_at A d 3 (by omega)]; simp
  rw [if_neg h3]
  by_cases h2 : j = d * 4 + 2
  · rw [if_pos h2, h2, wasCell, if_pos (by omega), accCell_at A d 2 (by omega)]; simp
  rw [if_neg h2]
  by_cases h1 : j = d * 4 + 1
  · rw [if_pos h1, h1, wasCell, if_pos (by omega), accCell_at A d 1 (by omega)]; simp
  rw [if_neg h1]
  by_cases h0 : j = d * 4
  · rw [if_pos h0, h0, wasCell, if_pos (by omega)]; have := accCell_at A d 0 (by omega); simp at this; rw [this]
  rw [if_neg h0]
  unfold wasCell
  by_cases hd : j / 4 < d
  · rw [if_pos hd, if_pos (by omega)]
  · rw [if_neg hd, if_neg (by omega)]

/-- Whom a quantum doesn't name keeps his account. -/
theorem cnt_apart (A : Nat → Acc) (n d : Nat) (o f wi : Int) : ((d : Int) ≠ o → (cntA A n o f wi d).own = (A d).own ∧ (cntA A n o f wi d).idle = (A d).idle) ∧ ((d : Int) ≠ wi → (cntA A n o f wi d).got = (A d).got) ∧ ((d : Int) ≠ f → (cntA A n o f wi d).freed = (A d).freed) := by
  have h1 : ∀ (B : Nat → Acc) (e x y u v : Int), (addA B n e x y u v d).own = (B d).own + (if 0 ≤ e ∧ e < n ∧ (d : Int) = e then x else 0) ∧ (addA B n e x y u v d).got = (B d).got + (if 0 ≤ e ∧ e < n ∧ (d : Int) = e then y else 0) ∧ (addA B n e x y u v d).idle = (B d).idle + (if 0 ≤ e ∧ e < n ∧ (d : Int) = e then u else 0) ∧ (addA B n e x y u v d).freed = (B d).freed + (if 0 ≤ e ∧ e < n ∧ (d : Int) = e then v else 0) := by
    intro B e x y u v
    unfold addA
    by_cases hr : 0 ≤ e ∧ e < n
    · rw [if_pos hr]
      unfold put
      by_cases hd : d = e.toNat
      · have he : (d : Int) = e := by omega
        rw [if_pos hd]
        simp only [hr.1, hr.2, he, Acc.plus, and_self, if_true, ← hd]
      · have he : ¬ (d : Int) = e := by omega
        rw [if_neg hd]
        simp only [he, and_false, if_false]
        omega
    · have : ¬ (0 ≤ e ∧ e < n ∧ (d : Int) = e) := fun h => hr ⟨h.1, h.2.1⟩
      simp only [if_neg hr, if_neg this]
      omega
  unfold cntA
  split
  · rename_i ho
    split
    · rename_i hw
      obtain ⟨a1, a2, a3, a4⟩ := h1 (addA A n o 1 0 0 0) f 0 0 0 1
      obtain ⟨b1, b2, b3, b4⟩ := h1 A o 1 0 0 0
      rw [a1, a2, a3, a4, b1, b2, b3, b4]
      refine ⟨fun h => ?_, fun h => ?_, fun h => ?_⟩
      · have : ¬ (0 ≤ o ∧ o < n ∧ (d : Int) = o) := fun k => h k.2.2
        simp only [if_neg this]; split <;> omega
      · split <;> split <;> omega
      · have : ¬ (0 ≤ f ∧ f < n ∧ (d : Int) = f) := fun k => h k.2.2
        simp only [if_neg this]; split <;> omega
    · obtain ⟨a1, a2, a3, a4⟩ := h1 (addA (addA A n wi 0 1 0 0) n o 0 0 1 0) f 0 0 0 1
      obtain ⟨b1, b2, b3, b4⟩ := h1 (addA A n wi 0 1 0 0) o 0 0 1 0
      obtain ⟨c1, c2, c3, c4⟩ := h1 A wi 0 1 0 0
      rw [a1, a2, a3, a4, b1, b2, b3, b4, c1, c2, c3, c4]
      refine ⟨fun h => ?_, fun h => ?_, fun h => ?_⟩
      · have : ¬ (0 ≤ o ∧ o < n ∧ (d : Int) = o) := fun k => h k.2.2
        simp only [if_neg this]; split <;> split <;> omega
      · have : ¬ (0 ≤ wi ∧ wi < n ∧ (d : Int) = wi) := fun k => h k.2.2
        simp only [if_neg this]; split <;> split <;> omega
      · have : ¬ (0 ≤ f ∧ f < n ∧ (d : Int) = f) := fun k => h k.2.2
        simp only [if_neg this]; split <;> split <;> omega
  · exact ⟨fun _ => ⟨rfl, rfl⟩, fun _ => rfl, fun _ => rfl⟩

theorem Led.far {w0 w : World} {g n s : Nat} {A : Nat → Acc} {m : Int} (h : Led w0 w (g + 1) g n A m) (h1 : w0.heap.size ≤ s) (h2 : s ≠ g) (i : Nat) (v : Value) (h3 : s ≠ g + 1 := by assumption) : Led w0 (w.setCell ⟨s, i, none⟩ v) (g + 1) g n A m :=
  ⟨⟨h.at_.1.setOther (by simpa using h3.symm) _, h.at_.2.setOther (by simpa using h2.symm) _⟩, h.within, h.pos, h.below.setCell h1 _, h.newg, h.newb, h.small⟩

theorem Led.drewN {w0 w : World} {g b n : Nat} {A : Nat → Acc} {m : Int} (h : Led w0 w g b n A m) (k : Nat) : Led w0 (w.drewN k) g b n A m :=
  ⟨h.at_, h.within, h.pos, below_drewN h.below k, h.newg, h.newb, h.small⟩

theorem Led.drew {w0 w : World} {g b n : Nat} {A : Nat → Acc} {m : Int} (h : Led w0 w g b n A m) : Led w0 w.drew g b n A m :=
  ⟨h.at_, h.within, h.pos, h.below.drew, h.newg, h.newb, h.small⟩

end Go.Proofs.Ytomadecehklbmaa
