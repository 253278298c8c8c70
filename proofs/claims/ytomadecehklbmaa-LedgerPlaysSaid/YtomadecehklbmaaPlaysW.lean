/-
  LedgerPlays: the walk.
-/
import Derived.Test.YtomadecehklbmaaPlaysP
import Derived.StillTailTactics
import Derived.Deep.RegionHeld3
namespace Go.Proofs.Ytomadecehklbmaa
open Go.RowKit
set_option linter.unusedSimpArgs false
set_option linter.unusedVariables false

theorem plays_many (d : Int) (P : Option Addr) (n c : Nat) (w : World) (hn : n ≤ 9223372036854775807) (h80 : (80 : Int) < (n : Int)) :
    Calls Try.prog 3 #[.int .i64 d, .slice P n c] w fun e w' => e = .returned (.bool true) ∧ Below w.heap.size w w' := by
  have hd : decide ((80 : Int) < (n : Int)) = true := by simpa using h80
  go_enter Try.func3, Try.ntmps3
  go_wp2_with (go_at_call 6; refine (known_any _).mono ?_; rintro e w1 ⟨rfl, b1⟩)
  go_ret
  exact ⟨rfl, b1⟩

theorem four_below {w w' : World} {x : Nat} {a b c d : Int} (h : four4 x a b c d w) (hb : Below w.heap.size w w') : w'.cell? ⟨x, 0, none⟩ = some (.int .i64 a) ∧ w'.cell? ⟨x, 1, none⟩ = some (.int .i64 b) ∧ w'.cell? ⟨x, 2, none⟩ = some (.int .i64 c) ∧ w'.cell? ⟨x, 3, none⟩ = some (.int .i64 d) := by
  obtain ⟨h0, h1, h2, h3⟩ := h
  have hx : x < w.heap.size := World.block_lt_of_cell? (h := h0)
  exact ⟨(hb.cell (p := ⟨x, 0, none⟩) hx).trans h0, (hb.cell (p := ⟨x, 1, none⟩) hx).trans h1, (hb.cell (p := ⟨x, 2, none⟩) hx).trans h2, (hb.cell (p := ⟨x, 3, none⟩) hx).trans h3⟩
section
variable {w0 w : World} {g b n gr x : Nat} {A : Nat → Acc} {m a1 a2 a3 a4 : Int}
theorem account_S (h : Led w0 w g b n A m) (hM : m ≤ 1000000) (hr : RAt w gr n A) (hx : four4 x a1 a2 a3 a4 w) (d : Int) :
    Calls Try.prog 12 #[.pointer (some ⟨g, 0, none⟩), .int .i64 d] w fun e w' => e = .returned (accV (tell A n d)) ∧ Led w0 w' g b n A m ∧ RAt w' gr n A ∧ w'.cell? ⟨x, 0, none⟩ = some (.int .i64 a1) ∧ w'.cell? ⟨x, 1, none⟩ = some (.int .i64 a2) ∧ w'.cell? ⟨x, 2, none⟩ = some (.int .i64 a3) ∧ w'.cell? ⟨x, 3, none⟩ = some (.int .i64 a4) := by
  refine (Account_led h hM d).mono ?_
  rintro e w' ⟨rfl, l, hb⟩
  exact ⟨rfl, l, rat_below hr hb, four_below hx hb⟩
theorem clock_S (h : Led w0 w g b n A m) (hM : m ≤ 1000000) (hr : RAt w gr n A) (hx : four4 x a1 a2 a3 a4 w) (d : Int) :
    Calls Try.prog 13 #[.pointer (some ⟨g, 0, none⟩), .int .i64 d] w fun e w' => e = .returned (.int .i64 ((tell A n d).own + (tell A n d).got)) ∧ Led w0 w' g b n A m ∧ RAt w' gr n A ∧ w'.cell? ⟨x, 0, none⟩ = some (.int .i64 a1) ∧ w'.cell? ⟨x, 1, none⟩ = some (.int .i64 a2) ∧ w'.cell? ⟨x, 2, none⟩ = some (.int .i64 a3) ∧ w'.cell? ⟨x, 3, none⟩ = some (.int .i64 a4) := by
  refine (Clock_led h hM d).mono ?_
  rintro e w' ⟨rfl, l, hb⟩
  exact ⟨rfl, l, rat_below hr hb, four_below hx hb⟩
end

set_option maxRecDepth 100000 in
set_option maxHeartbeats 1600000 in
theorem plays_some (d : Int) (P : Option Addr) (bs off n c : Nat) (S : Nat → Int × Int × Int) (w : World) (hP : 0 < n → P = some ⟨bs, off, none⟩) (hS : 0 < n → StepsAt w bs off n S) (h80 : n ≤ 80) :
    Calls Try.prog 3 #[.int .i64 d, .slice P n c] w fun e w' => e = .returned (.bool true) ∧ Below w.heap.size w w' := by
  obtain ⟨N, hN⟩ : ∃ N : Nat, (N : Int) = min (max d 1) 6 := ⟨(min (max d 1) 6).toNat, by omega⟩
  have HN := Lib.hid hN
  have HP := Lib.hid hP
  have HS := Lib.hid hS
  have hN6 : N ≤ 6 := by omega
  have hd : decide ((80 : Int) < (n : Int)) = false := by simp; omega
  clear hN hP hS
  go_enter Try.func3, Try.ntmps3
  go_wp2_with (go_at_call 6; refine (known_any _).mono ?_; rintro e w1 ⟨rfl, b1⟩)
  refine (New_led w w1 N d HN.out b1).mono ?_
  rintro e w2 ⟨rfl, l2⟩
  obtain ⟨gx, hgx⟩ : ∃ gx, gx = w1.heap.size := ⟨_, rfl⟩
  rw [← hgx] at l2 ⊢
  clear hgx
  go_wp2_with fail
  refine (rnew_any w2 d).mono ?_
  rintro e w3 ⟨rfl, N2, hN2, hr, hb3⟩
  obtain rfl : N2 = N := by have := HN.out; omega
  have l3 := l2.keep hb3
  have hgr0 : w.heap.size ≤ w2.heap.size + 1 := by have := l2.below.size; omega
  obtain ⟨gr, hgr⟩ : ∃ gr, gr = w2.heap.size := ⟨_, rfl⟩
  rw [← hgr] at hr hgr0 ⊢
  clear hgr hN2 hb3 l2
  go_wp2_with fail
  go_loopw [7] (fun i wr => ∃ k : Nat, k ≤ n ∧ i = .int .i64 k ∧ Led w wr (gx + 1) gx N2 (ledN N2 S k) (3 * k) ∧ RAt wr (gr + 1) N2 (ledN N2 S k)) (fun i _ => n - (intOf i).toNat)
  case atStart => exact ⟨0, Nat.zero_le _, rfl, l3, hr⟩
  case round =>
    obtain ⟨k, hk, rfl, hl, hr⟩ := hrel
    by_cases hlt : k < n
    case neg =>
      go_wp2
      go_ret
      exact ⟨rfl, hl.below⟩
    obtain rfl := HP.out (by omega)
    obtain ⟨e1, e2, e3⟩ := ((HS.out (by omega)).below hl.below).2 k hlt
    have k0 : (0 : Int) ≤ (k : Int) := Int.natCast_nonneg _
    have k1 : (k : Int) < (n : Int) := by omega
    have hlw := hl.within
    have hk3 : (3 * (k : Int)) ≤ 240 := by omega
    obtain ⟨A, hA⟩ : ∃ A, ledN N2 S k = A := ⟨_, rfl⟩
    have HA := Lib.hid (show ledN N2 S (k + 1) = cntA A N2 (S k).1 (S k).2.1 (S k).2.2 by rw [← hA]; rfl)
    rw [hA] at hl hr hlw
    clear hA
    obtain ⟨m, hm⟩ : ∃ m : Int, 3 * (k : Int) = m := ⟨_, rfl⟩
    have HM := Lib.hid hm
    rw [hm] at hl hlw hk3
    clear hm
    have hl0 := hl.drew
    have hr0 : RAt wr.drew (gr + 1) N2 A := hr
    go_wp2_with fail
    go_still_tail 16, (by kernel_rfl)
    go_wp2_with (go_at_call 9; refine (both_count hl0 (by omega) hr0 _ _ _).mono ?_; rintro e w4 ⟨rfl, l4, r4⟩)
    obtain ⟨e1, e2, e3⟩ := ((HS.out (by omega)).below l4.below).2 k hlt
    have l40 := l4.drew
    have r40 : RAt w4.drew (gr + 1) N2 A := r4
    clear hl hl0 hr hr0
    go_still_tail 16, (by kernel_rfl)
    go_wp2_with (go_at_call 10; refine (both_rcount l40 r40 hgr0 hlw (by omega) _ _ _).mono ?_; rintro e w5 ⟨rfl, l5, r5⟩)
    obtain ⟨B, hB⟩ : ∃ B, B = cntA A N2 (S k).1 (S k).2.1 (S k).2.2 := ⟨_, rfl⟩
    rw [← hB] at l5 r5
    rw [← hB] at HA
    clear hB l4 r4 l40 r40 e1 e2 e3 hlw
    go_loopw [8] (fun v wq => ∃ j : Nat, j ≤ 8 ∧ v = .int .i64 ((j : Int) - 1) ∧ Led w wq (gx + 1) gx N2 B (m + 3) ∧ RAt wq (gr + 1) N2 B) (fun v _ => 8 - (intOf v + 1).toNat)
    case atStart => exact ⟨0, Nat.zero_le _, rfl, l5, r5⟩
    case round =>
      clear l5 r5
      obtain ⟨j, hj, rfl, l6, r6⟩ := hrel
      obtain ⟨w6, rfl⟩ : ∃ w6, w6 = wr := ⟨wr, rfl⟩
      by_cases hlt2 : j < 8
      · have hM := HM.out
        have d1 : (j : Int) - 1 ≤ 6 := by omega
        have d0 : -1 ≤ (j : Int) - 1 := by omega
        obtain ⟨dd, hdd⟩ : ∃ dd : Int, dd = (j : Int) - 1 := ⟨_, rfl⟩
        have HD := Lib.hid hdd
        rw [← hdd] at d1 d0 ⊢
        clear hdd hM
        have hw6 := l6.within
        have htell : 0 ≤ (tell B N2 dd).own ∧ (tell B N2 dd).own ≤ 1000 ∧ 0 ≤ (tell B N2 dd).got ∧ (tell B N2 dd).got ≤ 1000 := by
          unfold tell
          split
          · have := hw6 dd.toNat; omega
          · simp [Acc.zero]
        have HR := raccount_any w6 (gr + 1) N2 dd B r6 (by omega)
        have HTL := Lib.hid (show tell B N2 dd = tell B N2 dd from rfl)
        go_wp2_with (go_at_call 11; refine HR.mono ?_; rintro e w7 ⟨rfl, hb7⟩)
        clear HTL HR hw6
        have l7 := l6.keep hb7
        have r7 := rat_below r6 hb7
        clear l6 r6 hb7
        obtain ⟨cs, hcs⟩ : ∃ cs : Array Value, cs = #[.int .i64 (tell B N2 dd).own, .int .i64 (tell B N2 dd).got, .int .i64 (tell B N2 dd).idle, .int .i64 (tell B N2 dd).freed] := ⟨_, rfl⟩
        have lW := (l7.keep ((Below.refl _ w7).alloc (Nat.le_refl _) (.cells #[.int .i64 (tell B N2 dd).own, .int .i64 (tell B N2 dd).got, .int .i64 (tell B N2 dd).idle, .int .i64 (tell B N2 dd).freed] 32))).drew
        have rW := rat_below r7 ((Below.refl _ w7).alloc (Nat.le_refl _) (.cells #[.int .i64 (tell B N2 dd).own, .int .i64 (tell B N2 dd).got, .int .i64 (tell B N2 dd).idle, .int .i64 (tell B N2 dd).freed] 32))
        have c0 : four4 w7.heap.size (tell B N2 dd).own (tell B N2 dd).got (tell B N2 dd).idle (tell B N2 dd).freed (w7.alloc (.cells #[.int .i64 (tell B N2 dd).own, .int .i64 (tell B N2 dd).got, .int .i64 (tell B N2 dd).idle, .int .i64 (tell B N2 dd).freed] 32)).drew := ⟨by simp, by simp, by simp, by simp⟩
        clear hcs cs l7 r7
        have HACC := fun (x : Nat) (W : World) (hL : Led w W (gx + 1) gx N2 B (m + 3)) (hR : RAt W (gr + 1) N2 B) (hx : four4 x (tell B N2 dd).own (tell B N2 dd).got (tell B N2 dd).idle (tell B N2 dd).freed W) => account_S hL (by omega) hR hx dd
        have HCLK := fun (x : Nat) (W : World) (hL : Led w W (gx + 1) gx N2 B (m + 3)) (hR : RAt W (gr + 1) N2 B) (hx : four4 x (tell B N2 dd).own (tell B N2 dd).got (tell B N2 dd).idle (tell B N2 dd).freed W) => clock_S hL (by omega) hR hx dd
        generalize tell B N2 dd = ta at *
        obtain ⟨ao, ag, ai, af⟩ := ta
        dsimp only at c0 htell lW rW HACC HCLK ⊢
        rw [show RAt (w7.alloc (.cells #[.int .i64 ao, .int .i64 ag, .int .i64 ai, .int .i64 af] 32)) (gr + 1) N2 B = RAt (w7.alloc (.cells #[.int .i64 ao, .int .i64 ag, .int .i64 ai, .int .i64 af] 32)).drew (gr + 1) N2 B from rfl] at rW
        generalize w7.heap.size = x at c0 ⊢
        generalize w7.alloc (.cells #[.int .i64 ao, .int .i64 ag, .int .i64 ai, .int .i64 af] 32) = W at c0 lW rW ⊢
        obtain ⟨c1, c2, c3, c4⟩ := id c0
        obtain ⟨t0, t1, t2, t3⟩ := htell
        go_region_held3 (fun w' => w'.cell? ⟨x, 0, none⟩ = some (.int .i64 ao) ∧ w'.cell? ⟨x, 1, none⟩ = some (.int .i64 ag) ∧ w'.cell? ⟨x, 2, none⟩ = some (.int .i64 ai) ∧ w'.cell? ⟨x, 3, none⟩ = some (.int .i64 af)) (go_keep)
          (first
            | (go_at_call 12; refine (HACC x _ lW rW c0).mono ?_; rintro e w8 ⟨rfl, l8, r8, y1, y2, y3, y4⟩)
            | (go_at_call 13; refine (HCLK x _ l8 r8 ⟨y1, y2, y3, y4⟩).mono ?_; rintro e w9 ⟨rfl, l9, r9, z1, z2, z3, z4⟩))
        have ew : IntKind.i64.wrap (ao + ag) = ao + ag := by (rw [IntKind.wrap_i64]; omega)
        simp only [ew, bne_self_eq_false]
        go_wp2
        go_roundw
        case rel => exact ⟨j + 1, by omega, by (have := HD.out; congr 1; omega), l9, r9⟩
        case measure => have := HD.out; simp [intOf]; omega
      · obtain rfl : j = 8 := by omega
        have hs := Sum_led l6 (by omega)
        have hw6 := l6.within
        have hp6 := l6.pos
        go_wp2_with fail
        refine hs.mono ?_
        rintro e w8 ⟨rfl, l8, hb8⟩
        have r8 := rat_below r6 hb8
        go_wp2_with fail
        refine (rsum_any w8 (gr + 1) N2 B (m + 3) r8 (by omega) hw6 hp6 (by omega)).mono ?_
        rintro e w9 ⟨rfl, hb9⟩
        have l9 := l8.keep hb9
        have r9 := rat_below r8 hb9
        clear hs l6 r6 l8 r8 hb8 hb9 hw6 hp6
        generalize sumA B N2 = ta
        go_wp2
        go_roundw
        case rel => exact ⟨k + 1, by omega, by go_num, by rw [HA.out]; have e : (3 * ((k + 1 : Nat) : Int)) = m + 3 := by (have := HM.out; omega)
                                                          rw [e]; exact l9, by rw [HA.out]; exact r9⟩
        case measure => simp [intOf]; omega

theorem plays_walk (d : Int) (P : Option Addr) (bs off n c : Nat) (S : Nat → Int × Int × Int) (w : World) (hP : 0 < n → P = some ⟨bs, off, none⟩) (hS : 0 < n → StepsAt w bs off n S) (hn : n ≤ 9223372036854775807) :
    Calls Try.prog 3 #[.int .i64 d, .slice P n c] w fun e w' => e = .returned (.bool true) ∧ Below w.heap.size w w' := by
  by_cases h80 : 80 < n
  · exact plays_many d P n c w hn (by omega)
  · exact plays_some d P bs off n c S w hP hS (by omega)
end Go.Proofs.Ytomadecehklbmaa
