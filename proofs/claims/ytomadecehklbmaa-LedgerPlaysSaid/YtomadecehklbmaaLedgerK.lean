/-
  A ledger that a call itself has made: the contracts again, in one word; and the examples that the statements look at first.
-/
import Derived.Test.YtomadecehklbmaaLedgerB
import Derived.Laws.StructEq
namespace Go.Proofs.Ytomadecehklbmaa
open Go.RowKit
set_option linter.unusedSimpArgs false
set_option linter.unusedVariables false

/-- A ledger made since w0; all older memory is as it was. -/
structure Led (w0 w : World) (g b n : Nat) (A : Nat → Acc) (m : Int) : Prop where
  at_ : LedAt w g b n A
  within : Within A m
  pos : 0 ≤ m
  below : Below w0.heap.size w0 w
  newg : w0.heap.size ≤ g
  newb : w0.heap.size ≤ b
  small : n ≤ 64

theorem led_below {w w' : World} {g b n : Nat} {A : Nat → Acc} (h : LedAt w g b n A) (hb : Below w.heap.size w w') : LedAt w' g b n A :=
  ⟨h.1.of_block (hb.block g h.1.lt), h.2.of_block (hb.block b h.2.lt)⟩

theorem Led.keep {w0 w w' : World} {g b n : Nat} {A : Nat → Acc} {m : Int} (h : Led w0 w g b n A m) (hb : Below w.heap.size w w') : Led w0 w' g b n A m :=
  ⟨led_below h.at_ hb, h.within, h.pos, h.below.trans (hb.mono h.below.size), h.newg, h.newb, h.small⟩

theorem Led.grown {w0 w w' : World} {g b n : Nat} {A A' : Nat → Acc} {m m' : Int} (h : Led w0 w g b n A m) (l : LedAt w' g b n A') (hm : Within A' m') (h0 : 0 ≤ m') (hg : w.grownBy w' (some b)) : Led w0 w' g b n A' m' :=
  ⟨l, hm, h0, h.below.grown hg h.below.size (fun k hk => by injection hk with hk; subst hk; exact h.newb), h.newg, h.newb, h.small⟩


theorem count_led {w0 w : World} {g b n : Nat} {A : Nat → Acc} {m : Int} (h : Led w0 w g b n A m) (hM : m ≤ 1000000) (o f wi : Int) :
    Calls Try.prog 9 #[.pointer (some ⟨g, 0, none⟩), .int .i64 o, .int .i64 f, .int .i64 wi] w fun e w' => e = .returned (.tuple #[]) ∧ Led w0 w' g b n (cntA A n o f wi) (m + 3) ∧ w.grownBy w' (some b) := by
  have := h.small
  have := h.pos
  refine (count_any w g b n o f wi A m h.at_ (by omega) h.within h.pos hM).mono ?_
  rintro e w' ⟨rfl, l, hg⟩
  exact ⟨rfl, h.grown l (within_cnt h.within h.pos n o f wi) (by omega) hg, hg⟩

theorem Account_led {w0 w : World} {g b n : Nat} {A : Nat → Acc} {m : Int} (h : Led w0 w g b n A m) (hM : m ≤ 1000000) (d : Int) :
    Calls Try.prog 12 #[.pointer (some ⟨g, 0, none⟩), .int .i64 d] w fun e w' => e = .returned (accV (tell A n d)) ∧ Led w0 w' g b n A m ∧ Below w.heap.size w w' := by
  have := h.small
  refine (Account_any w g b n d A m h.at_ (by omega) h.within hM).mono ?_
  rintro e w' ⟨rfl, hb⟩
  exact ⟨rfl, h.keep hb, hb⟩

theorem Clock_led {w0 w : World} {g b n : Nat} {A : Nat → Acc} {m : Int} (h : Led w0 w g b n A m) (hM : m ≤ 1000000) (d : Int) :
    Calls Try.prog 13 #[.pointer (some ⟨g, 0, none⟩), .int .i64 d] w fun e w' => e = .returned (.int .i64 ((tell A n d).own + (tell A n d).got)) ∧ Led w0 w' g b n A m ∧ Below w.heap.size w w' := by
  have := h.small
  refine (Clock_any w g b n d A m h.at_ (by omega) h.within hM).mono ?_
  rintro e w' ⟨rfl, hb⟩
  exact ⟨rfl, h.keep hb, hb⟩

theorem Sum_led {w0 w : World} {g b n : Nat} {A : Nat → Acc} {m : Int} (h : Led w0 w g b n A m) (hM : m ≤ 1000000) :
    Calls Try.prog 14 #[.pointer (some ⟨g, 0, none⟩)] w fun e w' => e = .returned (accV (sumA A n)) ∧ Led w0 w' g b n A m ∧ Below w.heap.size w w' := by
  refine (Sum_any w g b n A m h.at_ h.small h.within h.pos hM).mono ?_
  rintro e w' ⟨rfl, hb⟩
  exact ⟨rfl, h.keep hb, hb⟩

theorem within_zero : Within (fun _ => Acc.zero) 0 := fun i => by simp [Acc.zero]

/-- New, n known. -/
theorem New_led (w0 w : World) (n : Nat) (d : Int) (hn : (n : Int) = min (max d 1) 6) (h0 : Below w0.heap.size w0 w) : Calls Try.prog 7 #[.int .i64 d] w fun e w' => e = .returned (.pointer (some ⟨w.heap.size + 1, 0, none⟩)) ∧ Led w0 w' (w.heap.size + 1) w.heap.size n (fun _ => Acc.zero) 0 := by
  refine (New_any w d).mono ?_
  rintro e w' ⟨rfl, n', hn', hl, hb⟩
  obtain rfl : n' = n := by omega
  have := h0.size
  exact ⟨rfl, ⟨hl, within_zero, by omega, h0.trans (hb.mono h0.size), by omega, by omega, by omega⟩⟩

theorem known_any (w : World) : Calls Try.prog 6 #[] w fun e w' => e = .returned (.bool true) ∧ Below w.heap.size w w' := by
  have k0 : tell (cntA (cntA (cntA (cntA (fun x => Acc.zero) 3 0 (-1) 0) 3 0 2 1) 3 1 (-1) (-1)) 3 9 0 0) 3 0 = ⟨1, 0, 1, 0⟩ := rfl
  have k1 : tell (cntA (cntA (cntA (cntA (fun x => Acc.zero) 3 0 (-1) 0) 3 0 2 1) 3 1 (-1) (-1)) 3 9 0 0) 3 1 = ⟨0, 1, 1, 0⟩ := rfl
  have k2 : tell (cntA (cntA (cntA (cntA (fun x => Acc.zero) 3 0 (-1) 0) 3 0 2 1) 3 1 (-1) (-1)) 3 9 0 0) 3 2 = ⟨0, 0, 0, 1⟩ := rfl
  have k9 : tell (cntA (cntA (cntA (cntA (fun x => Acc.zero) 3 0 (-1) 0) 3 0 2 1) 3 1 (-1) (-1)) 3 9 0 0) 3 9 = ⟨0, 0, 0, 0⟩ := rfl
  have ks : sumA (cntA (cntA (cntA (cntA (fun x => Acc.zero) 3 0 (-1) 0) 3 0 2 1) 3 1 (-1) (-1)) 3 9 0 0) 3 = ⟨1, 1, 2, 1⟩ := rfl
  go_enter Try.func6, Try.ntmps6
  go_wp2_with (first | (go_at_call 7; refine (New_led w w 3 3 (by omega) (Below.refl _ _)).mono ?_; rintro e w1 ⟨rfl, l1⟩) | (go_at_call 9; refine (count_led (by assumption) (by omega) _ _ _).mono ?_; rintro e w1 ⟨rfl, l1, _⟩) | (go_at_call 12; refine (Account_led (by assumption) (by omega) _).mono ?_; rintro e w1 ⟨rfl, l1, _⟩) | (go_at_call 13; refine (Clock_led (by assumption) (by omega) _).mono ?_; rintro e w1 ⟨rfl, l1, _⟩) | (go_at_call 14; refine (Sum_led (by assumption) (by omega)).mono ?_; rintro e w1 ⟨rfl, l1, _⟩))
  go_ret
  exact ⟨rfl, l1.below⟩

end Go.Proofs.Ytomadecehklbmaa
