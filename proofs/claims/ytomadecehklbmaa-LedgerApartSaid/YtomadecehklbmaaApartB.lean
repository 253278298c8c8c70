/-
  LedgerApart: the walk over no steps, and over too many.
-/
import Derived.Test.YtomadecehklbmaaApartP
import Derived.StillTailTactics
import Derived.Deep.QuietTactic
import Derived.BigQuiet
namespace Go.Proofs.Ytomadecehklbmaa
open Go.RowKit
set_option linter.unusedSimpArgs false
set_option linter.unusedVariables false
set_option maxRecDepth 100000 in
set_option maxHeartbeats 16000000 in
theorem apart_none (P : Option Addr) (n c : Nat) (S : Nat → Int × Int × Int) (o f wi : Int) (w : World)
    (h60' : (n : Int) ≤ 60) (hd : decide ((60 : Int) < (n : Int)) = false) (hn0 : n ≤ 0) :
    Calls Try.prog 5 #[.slice P n c, .agg #[.int .i64 o, .int .i64 f, .int .i64 wi]] w fun e w' => e = .returned (.bool true) ∧ Below w.heap.size w w' := by
  go_enter Try.func5, Try.ntmps5
  go_wp2_with (first | (go_at_call 6; refine (known_any _).mono ?_; rintro e w1 ⟨rfl, b1⟩) | (go_at_call 7; refine (New_led _ _ 6 6 (by omega) b1).mono ?_; rintro e w2 ⟨rfl, l2⟩))
  obtain ⟨g, hg⟩ : ∃ g, g = w1.heap.size := ⟨_, rfl⟩
  obtain ⟨bx, hbx⟩ : ∃ bx, bx = w.heap.size := ⟨_, rfl⟩
  obtain ⟨wb, hwb⟩ : ∃ wb, wb = w.alloc (.cells #[.int .i64 o, .int .i64 f, .int .i64 wi] 30) := ⟨_, rfl⟩
  have x0 : wb.cell? ⟨bx, 0, none⟩ = some (.int .i64 o) := by rw [hwb, hbx]; simp
  have x1 : wb.cell? ⟨bx, 1, none⟩ = some (.int .i64 f) := by rw [hwb, hbx]; simp
  have x2 : wb.cell? ⟨bx, 2, none⟩ = some (.int .i64 wi) := by rw [hwb, hbx]; simp
  have xb : bx < wb.heap.size := by rw [hwb, hbx]; simp
  have xw : Below w.heap.size w wb := by rw [hwb]; exact (Below.refl _ _).alloc (Nat.le_refl _) _
  rw [← hwb] at l2 b1
  rw [← hg] at l2 ⊢
  rw [← hbx]
  clear hg hwb hbx
  go_loopw [6] (fun ui wr => ∃ k : Nat, k ≤ n ∧ ui = .int .i64 k ∧ Led wb wr (g + 1) g 6 (ledS S k) (3 * k)) (fun i _ => n - (intOf i).toNat)
  case atStart => exact ⟨0, by omega, rfl, l2⟩
  case round =>
    obtain ⟨k, hk, rfl, hl⟩ := hrel
    have hlt : ¬ k < n := by omega
    obtain rfl : k = n := by omega
    have hm : 3 * (k : Int) ≤ 180 := by omega
    obtain ⟨A, hA⟩ : ∃ A, ledS S k = A := ⟨_, rfl⟩
    obtain ⟨m, hm'⟩ : ∃ m : Int, 3 * (k : Int) = m := ⟨_, rfl⟩
    rw [hA, hm'] at hl
    rw [hm'] at hm
    clear hA hm'
    go_wp2_with fail
    have l4 := hl.keep ((Below.refl _ wr).alloc (Nat.le_refl _) (.cells #[.int .i64 0, .int .i64 0, .int .i64 0, .int .i64 0, .int .i64 0, .int .i64 0, .int .i64 0, .int .i64 0, .int .i64 0, .int .i64 0, .int .i64 0, .int .i64 0, .int .i64 0, .int .i64 0, .int .i64 0, .int .i64 0, .int .i64 0, .int .i64 0, .int .i64 0, .int .i64 0, .int .i64 0, .int .i64 0, .int .i64 0, .int .i64 0] 38))
    have r4 := was_new wr A 38
    have b4 : Below wr.heap.size wr (wr.alloc (.cells #[.int .i64 0, .int .i64 0, .int .i64 0, .int .i64 0, .int .i64 0, .int .i64 0, .int .i64 0, .int .i64 0, .int .i64 0, .int .i64 0, .int .i64 0, .int .i64 0, .int .i64 0, .int .i64 0, .int .i64 0, .int .i64 0, .int .i64 0, .int .i64 0, .int .i64 0, .int .i64 0, .int .i64 0, .int .i64 0, .int .i64 0, .int .i64 0] 38)) := (Below.refl _ _).alloc (Nat.le_refl _) _
    obtain ⟨s, hs⟩ : ∃ s, s = wr.heap.size := ⟨_, rfl⟩
    have hsb : wb.heap.size ≤ s := by rw [hs]; exact hl.below.size
    have hsg : s ≠ g := by rw [hs]; have := hl.at_.2.lt; omega
    have hsg' : s ≠ g + 1 := by rw [hs]; have := hl.at_.1.lt; omega
    rw [← hs] at r4 ⊢
    clear hs b4
    go_loopw [8] (fun ui wx => ∃ d : Nat, d ≤ 6 ∧ ui = .int .i64 d ∧ Led wb wx (g + 1) g 6 A m ∧ wx.rowIs s 38 24 (wasCell A d)) (fun i _ => 6 - (intOf i).toNat)
    case atStart => exact ⟨0, by omega, rfl, l4, r4⟩
    case round =>
      obtain ⟨d, hd6, rfl, lx, rx⟩ := hrel
      by_cases hld : d < 6
      · have ht : tell A 6 (d : Int) = A d := by unfold tell; rw [if_pos (by omega), Int.toNat_natCast]
        have hslt := rx.lt
        go_wp2_with (first | (go_at_call 12; refine (Account_led lx (by omega) _).mono ?_; rintro e w7 ⟨rfl, l7, b7⟩; have r7 := rx.of_block (b7.block s hslt); have q0 := r7.cell (i := d * 4) (by omega); have q1 := r7.cell (i := d * 4 + 1) (by omega); have q2 := r7.cell (i := d * 4 + 2) (by omega); have q3 := r7.cell (i := d * 4 + 3) (by omega); have p0 := r7.frozen (d * 4); have p1 := r7.frozen (d * 4 + 1); have p2 := r7.frozen (d * 4 + 2); have p3 := r7.frozen (d * 4 + 3)))
        go_roundw
        case rel => exact ⟨d + 1, by omega, by go_num, (((l7.far hsb hsg _ _).far hsb hsg _ _).far hsb hsg _ _).far hsb hsg _ _, was_succ r7⟩
        case measure => simp [intOf]; omega
      · obtain rfl : d = 6 := by omega
        have y0 := (lx.below.cell (p := ⟨bx, 0, none⟩) xb).trans x0
        have y1 := (lx.below.cell (p := ⟨bx, 1, none⟩) xb).trans x1
        have y2 := (lx.below.cell (p := ⟨bx, 2, none⟩) xb).trans x2
        go_wp2_with (first | (go_at_call 9; refine (count_led lx (by omega) _ _ _).mono ?_; rintro e w8 ⟨rfl, l8, g8⟩))
        have r8 := rx.of_block (g8.block s rx.lt (by simpa using hsg))
        clear y0 y1 y2
        go_loopw [9] (fun ui wy => ∃ d : Nat, d ≤ 6 ∧ ui = .int .i64 d ∧ Led wb wy (g + 1) g 6 (cntA A 6 o f wi) (m + 3) ∧ wy.rowIs s 38 24 (wasCell A 6)) (fun i _ => 6 - (intOf i).toNat)
        case atStart => exact ⟨0, by omega, rfl, l8, r8⟩
        case round =>
          obtain ⟨d, hd6, rfl, ly, ry⟩ := hrel
          by_cases hle : d < 6
          · have ht : tell (cntA A 6 o f wi) 6 (d : Int) = cntA A 6 o f wi d := by unfold tell; rw [if_pos (by omega), Int.toNat_natCast]
            have ⟨t1, t2, t3⟩ := cnt_apart A 6 d o f wi
            obtain ⟨N, hN⟩ : ∃ N, cntA A 6 o f wi d = N := ⟨_, rfl⟩
            rw [hN] at ht t1 t2 t3
            clear hN
            go_wp2_with (first | (go_at_call 12; refine (Account_led ly (by omega) _).mono ?_; rintro e w9 ⟨rfl, l9, b9⟩))
            have r9 := ry.of_block (b9.block s ry.lt)
            have hs9 := r9.lt
            have hb9 : bx < w9.heap.size := Nat.lt_of_lt_of_le xb l9.below.size
            have y0 := (l9.below.cell (p := ⟨bx, 0, none⟩) xb).trans x0
            have y1 := (l9.below.cell (p := ⟨bx, 1, none⟩) xb).trans x1
            have y2 := (l9.below.cell (p := ⟨bx, 2, none⟩) xb).trans x2
            have q0 : w9.cell? ⟨s, d * 4, none⟩ = some (.int .i64 (A d).own) := by have := r9.cell (i := d * 4 + 0) (by omega); rw [was_at A d 0 hle (by omega)] at this; exact this
            have q1 : w9.cell? ⟨s, d * 4 + 1, none⟩ = some (.int .i64 (A d).got) := by have := r9.cell (i := d * 4 + 1) (by omega); rw [was_at A d 1 hle (by omega)] at this; exact this
            have q2 : w9.cell? ⟨s, d * 4 + 2, none⟩ = some (.int .i64 (A d).idle) := by have := r9.cell (i := d * 4 + 2) (by omega); rw [was_at A d 2 hle (by omega)] at this; exact this
            have q3 : w9.cell? ⟨s, d * 4 + 3, none⟩ = some (.int .i64 (A d).freed) := by have := r9.cell (i := d * 4 + 3) (by omega); rw [was_at A d 3 hle (by omega)] at this; exact this
            by_cases c1 : (d : Int) = o
            ·
              have v1 : ((d : Int) == o) = true := by simpa using c1
              have v1' : ((d : Int) != o) = false := by simp [c1]
              have v1'' : decide ((d : Int) = o) = true := by simpa using c1
              clear c1
              by_cases c2 : (d : Int) = wi
              ·
                have v2 : ((d : Int) == wi) = true := by simpa using c2
                have v2' : ((d : Int) != wi) = false := by simp [c2]
                have v2'' : decide ((d : Int) = wi) = true := by simpa using c2
                clear c2
                by_cases c3 : (d : Int) = f
                ·
                  have v3 : ((d : Int) == f) = true := by simpa using c3
                  have v3' : ((d : Int) != f) = false := by simp [c3]
                  have v3'' : decide ((d : Int) = f) = true := by simpa using c3
                  clear c3
                  clear t1 t2 t3
                  go_quiet (fail)
                  go_wp2
                  go_roundw
                  case rel => exact ⟨d + 1, by omega, by go_num, (l9.keep ((Below.refl _ w9).alloc (Nat.le_refl _) _)).drewN _, r9.alloc _⟩
                  case measure => simp [intOf]; omega
                ·
                  have v3 : ((d : Int) == f) = false := by simpa using c3
                  have v3' : ((d : Int) != f) = true := by simpa using c3
                  have v3'' : decide ((d : Int) = f) = false := by simpa using c3
                  have u4 := t3 c3
                  clear t1 t2 t3
                  go_quiet (fail)
                  go_wp2
                  go_roundw
                  case rel => exact ⟨d + 1, by omega, by go_num, (l9.keep ((Below.refl _ w9).alloc (Nat.le_refl _) _)).drewN _, r9.alloc _⟩
                  case measure => simp [intOf]; omega
              ·
                have v2 : ((d : Int) == wi) = false := by simpa using c2
                have v2' : ((d : Int) != wi) = true := by simpa using c2
                have v2'' : decide ((d : Int) = wi) = false := by simpa using c2
                have u3 := t2 c2
                by_cases c3 : (d : Int) = f
                ·
                  have v3 : ((d : Int) == f) = true := by simpa using c3
                  have v3' : ((d : Int) != f) = false := by simp [c3]
                  have v3'' : decide ((d : Int) = f) = true := by simpa using c3
                  clear c3
                  clear t1 t2 t3
                  go_quiet (fail)
                  go_wp2
                  go_roundw
                  case rel => exact ⟨d + 1, by omega, by go_num, (l9.keep ((Below.refl _ w9).alloc (Nat.le_refl _) _)).drewN _, r9.alloc _⟩
                  case measure => simp [intOf]; omega
                ·
                  have v3 : ((d : Int) == f) = false := by simpa using c3
                  have v3' : ((d : Int) != f) = true := by simpa using c3
                  have v3'' : decide ((d : Int) = f) = false := by simpa using c3
                  have u4 := t3 c3
                  clear t1 t2 t3
                  go_quiet (fail)
                  go_wp2
                  go_roundw
                  case rel => exact ⟨d + 1, by omega, by go_num, (l9.keep ((Below.refl _ w9).alloc (Nat.le_refl _) _)).drewN _, r9.alloc _⟩
                  case measure => simp [intOf]; omega
            ·
              have v1 : ((d : Int) == o) = false := by simpa using c1
              have v1' : ((d : Int) != o) = true := by simpa using c1
              have v1'' : decide ((d : Int) = o) = false := by simpa using c1
              obtain ⟨u1, u2⟩ := t1 c1
              by_cases c2 : (d : Int) = wi
              ·
                have v2 : ((d : Int) == wi) = true := by simpa using c2
                have v2' : ((d : Int) != wi) = false := by simp [c2]
                have v2'' : decide ((d : Int) = wi) = true := by simpa using c2
                clear c2
                by_cases c3 : (d : Int) = f
                ·
                  have v3 : ((d : Int) == f) = true := by simpa using c3
                  have v3' : ((d : Int) != f) = false := by simp [c3]
                  have v3'' : decide ((d : Int) = f) = true := by simpa using c3
                  clear c3
                  clear t1 t2 t3
                  go_quiet (fail)
                  go_wp2
                  go_roundw
                  case rel => exact ⟨d + 1, by omega, by go_num, (l9.keep ((Below.refl _ w9).alloc (Nat.le_refl _) _)).drewN _, r9.alloc _⟩
                  case measure => simp [intOf]; omega
                ·
                  have v3 : ((d : Int) == f) = false := by simpa using c3
                  have v3' : ((d : Int) != f) = true := by simpa using c3
                  have v3'' : decide ((d : Int) = f) = false := by simpa using c3
                  have u4 := t3 c3
                  clear t1 t2 t3
                  go_quiet (fail)
                  go_wp2
                  go_roundw
                  case rel => exact ⟨d + 1, by omega, by go_num, (l9.keep ((Below.refl _ w9).alloc (Nat.le_refl _) _)).drewN _, r9.alloc _⟩
                  case measure => simp [intOf]; omega
              ·
                have v2 : ((d : Int) == wi) = false := by simpa using c2
                have v2' : ((d : Int) != wi) = true := by simpa using c2
                have v2'' : decide ((d : Int) = wi) = false := by simpa using c2
                have u3 := t2 c2
                by_cases c3 : (d : Int) = f
                ·
                  have v3 : ((d : Int) == f) = true := by simpa using c3
                  have v3' : ((d : Int) != f) = false := by simp [c3]
                  have v3'' : decide ((d : Int) = f) = true := by simpa using c3
                  clear c3
                  clear t1 t2 t3
                  go_quiet (fail)
                  go_wp2
                  go_roundw
                  case rel => exact ⟨d + 1, by omega, by go_num, (l9.keep ((Below.refl _ w9).alloc (Nat.le_refl _) _)).drewN _, r9.alloc _⟩
                  case measure => simp [intOf]; omega
                ·
                  have v3 : ((d : Int) == f) = false := by simpa using c3
                  have v3' : ((d : Int) != f) = true := by simpa using c3
                  have v3'' : decide ((d : Int) = f) = false := by simpa using c3
                  have u4 := t3 c3
                  clear t1 t2 t3
                  go_quiet (fail)
                  go_wp2
                  go_roundw
                  case rel => exact ⟨d + 1, by omega, by go_num, (l9.keep ((Below.refl _ w9).alloc (Nat.le_refl _) _)).drewN _, r9.alloc _⟩
                  case measure => simp [intOf]; omega
          · go_wp2
            go_ret
            exact ⟨rfl, xw.trans (ly.below.mono xw.size)⟩

theorem apart_many (P : Option Addr) (n c : Nat) (o f wi : Int) (w : World) (h60' : (60 : Int) < (n : Int)) :
    Calls Try.prog 5 #[.slice P n c, .agg #[.int .i64 o, .int .i64 f, .int .i64 wi]] w fun e w' => e = .returned (.bool true) ∧ Below w.heap.size w w' := by
  go_enter Try.func5, Try.ntmps5
  go_wp2_with (first | (go_at_call 6; refine (known_any _).mono ?_; rintro e w1 ⟨rfl, b1⟩) | (go_at_call 7; refine (New_led _ _ 6 6 (by omega) b1).mono ?_; rintro e w2 ⟨rfl, l2⟩))
  go_ret
  exact ⟨rfl, ((Below.refl _ _).alloc (Nat.le_refl _) _).trans (b1.mono (by simp))⟩
end Go.Proofs.Ytomadecehklbmaa
