/-
  LedgerSums: the walk.
-/
import Derived.Test.YtomadecehklbmaaLedgerP
import Derived.RowKit3
namespace Go.Proofs.Ytomadecehklbmaa
open Go.RowKit
set_option linter.unusedSimpArgs false
set_option linter.unusedVariables false

theorem ret_bool {a b : Bool} (h : a = b) : Ending.returned (.bool a) = .returned (.bool b) := by rw [h]

theorem cntN_succ (S : Nat → Int × Int × Int) (k : Nat) : cntN S (k + 1) = cntN S k + if in6 (S k).1 then 1 else 0 := rfl
theorem cntH_succ (S : Nat → Int × Int × Int) (k : Nat) : cntH S (k + 1) = cntH S k + if in6 (S k).1 ∧ in6 (S k).2.2 then 1 else 0 := rfl
theorem led_succ {w0 w : World} {g b k : Nat} {S : Nat → Int × Int × Int} (h : Led w0 w g b 6 (cntA (ledS S k) 6 (S k).1 (S k).2.1 (S k).2.2) (3 * (k : Int) + 3)) : Led w0 w g b 6 (ledS S (k + 1)) (3 * ((k + 1 : Nat) : Int)) := by
  have e : 3 * ((k + 1 : Nat) : Int) = 3 * (k : Int) + 3 := by omega
  rw [e]
  exact h

theorem keep_new {wr w3 : World} {g : Nat} {cs : Array Value} {T : TypeId} (h : (wr.alloc (.cells cs T)).grownBy w3 (some g)) (hg : g < wr.heap.size) (i : Nat) : w3.cell? ⟨wr.heap.size, i, none⟩ = cs[i]? := by
  have h1 := World.cell?_of_block (a := ⟨wr.heap.size, i, none⟩) (h.block wr.heap.size (by simp) (by simp; omega))
  rw [h1]
  simp

set_option maxHeartbeats 1600000 in
theorem sums_walk (P : Option Addr) (bs off n c : Nat) (S : Nat → Int × Int × Int) (w : World) (hP : 0 < n → P = some ⟨bs, off, none⟩) (hS : 0 < n → StepsAt w bs off n S) (hn : n ≤ 9223372036854775807) :
    Calls Try.prog 4 #[.slice P n c] w fun e w' => e = .returned (.bool true) ∧ Below w.heap.size w w' := by
  by_cases h80 : 80 < n
  · have h80' : (80 : Int) < (n : Int) := by omega
    go_enter Try.func4, Try.ntmps4
    go_wp2_with (first | (go_at_call 6; refine (known_any _).mono ?_; rintro e w1 ⟨rfl, b1⟩) | (go_at_call 7; refine (New_led w _ 6 6 (by omega) (by assumption)).mono ?_; rintro e w2 ⟨rfl, l2⟩))
    go_ret
    exact ⟨rfl, b1⟩
  have h80' : (n : Int) ≤ 80 := by omega
  have hd : decide ((80 : Int) < (n : Int)) = false := by simp; omega
  by_cases hn0 : n ≤ 0
  · clear hP hS
    go_enter Try.func4, Try.ntmps4
    go_wp2_with (first | (go_at_call 6; refine (known_any _).mono ?_; rintro e w1 ⟨rfl, b1⟩) | (go_at_call 7; refine (New_led w _ 6 6 (by omega) (by assumption)).mono ?_; rintro e w2 ⟨rfl, l2⟩))
    obtain ⟨g, hg⟩ : ∃ g, g = w1.heap.size := ⟨_, rfl⟩
    rw [← hg] at l2 ⊢
    clear hg
    go_loopw [4, 5, 6] (fun un uh ui wr => ∃ k : Nat, k ≤ n ∧ ui = .int .i64 k ∧ un = .int .i64 (cntN S k) ∧ uh = .int .i64 (cntH S k) ∧ Led w wr (g + 1) g 6 (ledS S k) (3 * k)) (fun _ _ i _ => n - (intOf i).toNat)
    case atStart => exact ⟨0, by omega, rfl, rfl, rfl, l2⟩
    case round =>
      obtain ⟨k, hk, rfl, rfl, rfl, hl⟩ := hrel
      have hlt : ¬ k < n := by omega
      obtain rfl : k = n := by omega
      have ⟨n0, n1⟩ := cntN_bounds S k
      have ⟨m0, m1⟩ := cntH_bounds S k
      go_wp2_with (first | (go_at_call 14; refine (Sum_led hl (by omega)).mono ?_; rintro e w5 ⟨rfl, l5, b5⟩))
      obtain ⟨s, hs⟩ : ∃ s, s = w5.heap.size := ⟨_, rfl⟩
      have hz5 := l5.below.size
      have HC := Lib.hid (clkS_sum (ledS S k))
      have ⟨I1, I2, I4⟩ := sums_inv S k
      have HI1 := Lib.hid I1
      have HI2 := Lib.hid I2
      have HB := Lib.hid (sumA_bounds l5.within l5.pos (by omega))
      have ⟨o0, o1, g0, g1, i0, i1, _⟩ := sumA_bounds l5.within l5.pos (by omega) 6 (by omega)
      clear I1 I2
      have l6 := l5.keep ((Below.refl _ w5).alloc (Nat.le_refl _) (.cells #[.int .i64 (sumA (ledS S k) 6).own, .int .i64 (sumA (ledS S k) 6).got, .int .i64 (sumA (ledS S k) 6).idle, .int .i64 (sumA (ledS S k) 6).freed] 32))
      have r6 : (w5.alloc (.cells #[.int .i64 (sumA (ledS S k) 6).own, .int .i64 (sumA (ledS S k) 6).got, .int .i64 (sumA (ledS S k) 6).idle, .int .i64 (sumA (ledS S k) 6).freed] 32)).heap[s]? = some (.cells #[.int .i64 (sumA (ledS S k) 6).own, .int .i64 (sumA (ledS S k) 6).got, .int .i64 (sumA (ledS S k) 6).idle, .int .i64 (sumA (ledS S k) 6).freed] 32 (0, 0)) := by rw [hs]; exact heap_alloc_new w5 _
      rw [← hs]
      clear hs
      go_loopw [9, 10] (fun ua ud wx => ∃ j : Nat, j ≤ 6 ∧ ud = .int .i64 j ∧ ua = .int .i64 (clkS (ledS S k) j) ∧ Led w wx (g + 1) g 6 (ledS S k) (3 * k) ∧ wx.heap[s]? = some (.cells #[.int .i64 (sumA (ledS S k) 6).own, .int .i64 (sumA (ledS S k) 6).got, .int .i64 (sumA (ledS S k) 6).idle, .int .i64 (sumA (ledS S k) 6).freed] 32 (0, 0))) (fun _ d _ => 6 - (intOf d).toNat)
      case atStart => exact ⟨0, by omega, rfl, rfl, l6, r6⟩
      case round =>
        obtain ⟨j, hj, rfl, rfl, lx, rx⟩ := hrel
        have hcj := HC.out j
        have ⟨p0, p1, q0, q1, _⟩ := HB.out j (by omega)
        have y0 : 0 ≤ clkS (ledS S k) j := by omega
        have y1 : clkS (ledS S k) j ≤ 12000000 := by omega
        have ⟨z0, z1, z2, z3, _⟩ := lx.within j
        clear hcj
        by_cases hlj : j < 6
        · have ht : tell (ledS S k) 6 (j : Int) = ledS S k j := by unfold tell; rw [if_pos (by omega), Int.toNat_natCast]
          go_wp2_with (first | (go_at_call 13; refine (Clock_led lx (by omega) _).mono ?_; rintro e w7 ⟨rfl, l7, b7⟩))
          go_roundw
          case rel => exact ⟨j + 1, by omega, by go_num, rfl, l7, (b7.block s (lt_of_block rx)).trans rx⟩
          case measure => simp [intOf]; omega
        · obtain rfl : j = 6 := by omega
          have d0 : wr.cell? ⟨s, 0, none⟩ = some (.int .i64 (sumA (ledS S k) 6).own) := by simp [World.cell?, rx]
          have d1 : wr.cell? ⟨s, 1, none⟩ = some (.int .i64 (sumA (ledS S k) 6).got) := by simp [World.cell?, rx]
          have d2 : wr.cell? ⟨s, 2, none⟩ = some (.int .i64 (sumA (ledS S k) 6).idle) := by simp [World.cell?, rx]
          have I1 := HI1.out
          have I2 := HI2.out
          have I3 : clkS (ledS S k) 6 = cntH S k := by rw [HC.out]; exact I2
          go_wp2
          go_ret
          exact ⟨ret_bool (by simp), lx.below⟩
  · obtain rfl := hP (by omega)
    have hS := hS (by omega)
    clear hP
    go_enter Try.func4, Try.ntmps4
    go_wp2_with (first | (go_at_call 6; refine (known_any _).mono ?_; rintro e w1 ⟨rfl, b1⟩) | (go_at_call 7; refine (New_led w _ 6 6 (by omega) (by assumption)).mono ?_; rintro e w2 ⟨rfl, l2⟩))
    obtain ⟨g, hg⟩ : ∃ g, g = w1.heap.size := ⟨_, rfl⟩
    rw [← hg] at l2 ⊢
    clear hg
    go_loopw [4, 5, 6] (fun un uh ui wr => ∃ k : Nat, k ≤ n ∧ ui = .int .i64 k ∧ un = .int .i64 (cntN S k) ∧ uh = .int .i64 (cntH S k) ∧ Led w wr (g + 1) g 6 (ledS S k) (3 * k)) (fun _ _ i _ => n - (intOf i).toNat)
    case atStart => exact ⟨0, by omega, rfl, rfl, rfl, l2⟩
    case round =>
      obtain ⟨k, hk, rfl, rfl, rfl, hl⟩ := hrel
      by_cases hlt : k < n
      case neg =>
        obtain rfl : k = n := by omega
        have ⟨n0, n1⟩ := cntN_bounds S k
        have ⟨m0, m1⟩ := cntH_bounds S k
        go_wp2_with (first | (go_at_call 14; refine (Sum_led hl (by omega)).mono ?_; rintro e w5 ⟨rfl, l5, b5⟩))
        obtain ⟨s, hs⟩ : ∃ s, s = w5.heap.size := ⟨_, rfl⟩
        have hz5 := l5.below.size
        have HC := Lib.hid (clkS_sum (ledS S k))
        have ⟨I1, I2, I4⟩ := sums_inv S k
        have HI1 := Lib.hid I1
        have HI2 := Lib.hid I2
        have HB := Lib.hid (sumA_bounds l5.within l5.pos (by omega))
        have ⟨o0, o1, g0, g1, i0, i1, _⟩ := sumA_bounds l5.within l5.pos (by omega) 6 (by omega)
        clear I1 I2
        have l6 := l5.keep ((Below.refl _ w5).alloc (Nat.le_refl _) (.cells #[.int .i64 (sumA (ledS S k) 6).own, .int .i64 (sumA (ledS S k) 6).got, .int .i64 (sumA (ledS S k) 6).idle, .int .i64 (sumA (ledS S k) 6).freed] 32))
        have r6 : (w5.alloc (.cells #[.int .i64 (sumA (ledS S k) 6).own, .int .i64 (sumA (ledS S k) 6).got, .int .i64 (sumA (ledS S k) 6).idle, .int .i64 (sumA (ledS S k) 6).freed] 32)).heap[s]? = some (.cells #[.int .i64 (sumA (ledS S k) 6).own, .int .i64 (sumA (ledS S k) 6).got, .int .i64 (sumA (ledS S k) 6).idle, .int .i64 (sumA (ledS S k) 6).freed] 32 (0, 0)) := by rw [hs]; exact heap_alloc_new w5 _
        rw [← hs]
        clear hs
        go_loopw [9, 10] (fun ua ud wx => ∃ j : Nat, j ≤ 6 ∧ ud = .int .i64 j ∧ ua = .int .i64 (clkS (ledS S k) j) ∧ Led w wx (g + 1) g 6 (ledS S k) (3 * k) ∧ wx.heap[s]? = some (.cells #[.int .i64 (sumA (ledS S k) 6).own, .int .i64 (sumA (ledS S k) 6).got, .int .i64 (sumA (ledS S k) 6).idle, .int .i64 (sumA (ledS S k) 6).freed] 32 (0, 0))) (fun _ d _ => 6 - (intOf d).toNat)
        case atStart => exact ⟨0, by omega, rfl, rfl, l6, r6⟩
        case round =>
          obtain ⟨j, hj, rfl, rfl, lx, rx⟩ := hrel
          have hcj := HC.out j
          have ⟨p0, p1, q0, q1, _⟩ := HB.out j (by omega)
          have y0 : 0 ≤ clkS (ledS S k) j := by omega
          have y1 : clkS (ledS S k) j ≤ 12000000 := by omega
          have ⟨z0, z1, z2, z3, _⟩ := lx.within j
          clear hcj
          by_cases hlj : j < 6
          · have ht : tell (ledS S k) 6 (j : Int) = ledS S k j := by unfold tell; rw [if_pos (by omega), Int.toNat_natCast]
            go_wp2_with (first | (go_at_call 13; refine (Clock_led lx (by omega) _).mono ?_; rintro e w7 ⟨rfl, l7, b7⟩))
            go_roundw
            case rel => exact ⟨j + 1, by omega, by go_num, rfl, l7, (b7.block s (lt_of_block rx)).trans rx⟩
            case measure => simp [intOf]; omega
          · obtain rfl : j = 6 := by omega
            have d0 : wr.cell? ⟨s, 0, none⟩ = some (.int .i64 (sumA (ledS S k) 6).own) := by simp [World.cell?, rx]
            have d1 : wr.cell? ⟨s, 1, none⟩ = some (.int .i64 (sumA (ledS S k) 6).got) := by simp [World.cell?, rx]
            have d2 : wr.cell? ⟨s, 2, none⟩ = some (.int .i64 (sumA (ledS S k) 6).idle) := by simp [World.cell?, rx]
            have I1 := HI1.out
            have I2 := HI2.out
            have I3 : clkS (ledS S k) 6 = cntH S k := by rw [HC.out]; exact I2
            go_wp2
            go_ret
            exact ⟨ret_bool (by simp), lx.below⟩
      obtain ⟨hb, hs⟩ := hS
      obtain ⟨c1, c2, c3⟩ := hs k hlt
      have e1 : wr.cell? ⟨bs, off + k * 3, none⟩ = some (.int .i64 (S k).1) := (hl.below.cell hb).trans c1
      have e2 : wr.cell? ⟨bs, off + k * 3 + 1, none⟩ = some (.int .i64 (S k).2.1) := (hl.below.cell hb).trans c2
      have e3 : wr.cell? ⟨bs, off + k * 3 + 2, none⟩ = some (.int .i64 (S k).2.2) := (hl.below.cell hb).trans c3
      clear hs c1 c2 c3
      have hgz := hl.at_.1.lt
      have hl' := hl.keep ((Below.refl _ wr).alloc (Nat.le_refl _) (.cells #[.int .i64 (S k).1, .int .i64 (S k).2.1, .int .i64 (S k).2.2] 30))
      have HN := Lib.hid (cntN_succ S k)
      have HH := Lib.hid (cntH_succ S k)
      have ⟨n0, n1⟩ := cntN_bounds S k
      have ⟨m0, m1⟩ := cntH_bounds S k
      by_cases a1 : 0 ≤ (S k).1
      case neg =>
        go_wp2_with (first | (go_at_call 9; refine (count_led hl' (by omega) _ _ _).mono ?_; rintro e w3 ⟨rfl, l3, g3⟩; have f1 : w3.cell? ⟨wr.heap.size, 0, none⟩ = some (.int .i64 (S k).1) := keep_new g3 (by omega) 0; have f2 : w3.cell? ⟨wr.heap.size, 2, none⟩ = some (.int .i64 (S k).2.2) := keep_new g3 (by omega) 2))
        go_roundw
        case rel => exact ⟨k + 1, by omega, by go_num, by rw [HN.out, if_neg (fun h => by have := h.1; omega)]; simp, by rw [HH.out, if_neg (fun h => by have := h.1.1; omega)]; simp, led_succ l3⟩
        case measure => simp [intOf]; omega
      by_cases a2 : (S k).1 < 6
      case neg =>
        go_wp2_with (first | (go_at_call 9; refine (count_led hl' (by omega) _ _ _).mono ?_; rintro e w3 ⟨rfl, l3, g3⟩; have f1 : w3.cell? ⟨wr.heap.size, 0, none⟩ = some (.int .i64 (S k).1) := keep_new g3 (by omega) 0; have f2 : w3.cell? ⟨wr.heap.size, 2, none⟩ = some (.int .i64 (S k).2.2) := keep_new g3 (by omega) 2))
        go_roundw
        case rel => exact ⟨k + 1, by omega, by go_num, by rw [HN.out, if_neg (fun h => by have := h.2; omega)]; simp, by rw [HH.out, if_neg (fun h => by have := h.1.2; omega)]; simp, led_succ l3⟩
        case measure => simp [intOf]; omega
      by_cases a3 : 0 ≤ (S k).2.2
      case neg =>
        go_wp2_with (first | (go_at_call 9; refine (count_led hl' (by omega) _ _ _).mono ?_; rintro e w3 ⟨rfl, l3, g3⟩; have f1 : w3.cell? ⟨wr.heap.size, 0, none⟩ = some (.int .i64 (S k).1) := keep_new g3 (by omega) 0; have f2 : w3.cell? ⟨wr.heap.size, 2, none⟩ = some (.int .i64 (S k).2.2) := keep_new g3 (by omega) 2))
        go_roundw
        case rel => exact ⟨k + 1, by omega, by go_num, by rw [HN.out, if_pos ⟨a1, a2⟩], by rw [HH.out, if_neg (fun h => by have := h.2.1; omega)]; simp, led_succ l3⟩
        case measure => simp [intOf]; omega
      by_cases a4 : (S k).2.2 < 6
      case neg =>
        go_wp2_with (first | (go_at_call 9; refine (count_led hl' (by omega) _ _ _).mono ?_; rintro e w3 ⟨rfl, l3, g3⟩; have f1 : w3.cell? ⟨wr.heap.size, 0, none⟩ = some (.int .i64 (S k).1) := keep_new g3 (by omega) 0; have f2 : w3.cell? ⟨wr.heap.size, 2, none⟩ = some (.int .i64 (S k).2.2) := keep_new g3 (by omega) 2))
        go_roundw
        case rel => exact ⟨k + 1, by omega, by go_num, by rw [HN.out, if_pos ⟨a1, a2⟩], by rw [HH.out, if_neg (fun h => by have := h.2.2; omega)]; simp, led_succ l3⟩
        case measure => simp [intOf]; omega
      go_wp2_with (first | (go_at_call 9; refine (count_led hl' (by omega) _ _ _).mono ?_; rintro e w3 ⟨rfl, l3, g3⟩; have f1 : w3.cell? ⟨wr.heap.size, 0, none⟩ = some (.int .i64 (S k).1) := keep_new g3 (by omega) 0; have f2 : w3.cell? ⟨wr.heap.size, 2, none⟩ = some (.int .i64 (S k).2.2) := keep_new g3 (by omega) 2))
      go_roundw
      case rel => exact ⟨k + 1, by omega, by go_num, by rw [HN.out, if_pos ⟨a1, a2⟩], by rw [HH.out, if_pos ⟨⟨a1, a2⟩, a3, a4⟩], led_succ l3⟩
      case measure => simp [intOf]; omega
end Go.Proofs.Ytomadecehklbmaa
