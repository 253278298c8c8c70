/-
  StrideWhole, StrideScales, StrideHeavier: the walks.
-/
import Derived.Test.YtoijganmfabkaaaStrideP
import Derived.RowKit3
namespace Go.Proofs.Ytoijganmfabkaaa
open Go.RowKit
set_option linter.unusedVariables false

theorem whole_bound (a : Int) (k : Nat) (h : (k : Int) ≤ 16) : 0 ≤ (k : Int) * ofW a ∧ (k : Int) * ofW a ≤ 16 * 720720 := by
  have ⟨h1, h2⟩ := ofW_bounds a
  exact ⟨Int.mul_nonneg (by omega) h1, Int.mul_le_mul h h2 h1 (by omega)⟩

theorem whole_walk (a : Int) (a0 : 0 ≤ a) (a1 : a ≤ 255) (w : World) :
    Calls Try.prog 4 #[.int .u8 a] w fun e w' => e = .returned (.bool true) ∧ w = w' := by
  obtain ⟨c, hc⟩ : ∃ c : Int, c = a % 16 + 1 := ⟨_, rfl⟩
  have c1 : 1 ≤ c := by omega
  have c2 : c ≤ 16 := by omega
  have HE := Lib.hid (ofW_exact c1 c2)
  have HA := Lib.hid (ofW_above c1)
  have HC := Lib.hid hc
  clear hc
  go_enter Try.func4, Try.ntmps4
  go_wp2_with (first | (go_at_call 7; refine (known_any _).mono ?_; rintro e w' ⟨rfl, rfl⟩))
  rw [← HC.out]
  go_loop [4, 5] (fun p i => ∃ k : Nat, (k : Int) ≤ c ∧ i = .int .i64 k ∧ p = .int .i64 ((k : Int) * ofW c)) (fun _ i => (c - intOf i).toNat)
  case atStart => exact ⟨0, by omega, rfl, by simp⟩
  case round =>
    obtain ⟨k, hk, rfl, rfl⟩ := hrel
    have ⟨b1, b2⟩ := whole_bound c k (by omega)
    have ⟨h1, h2⟩ := ofW_bounds c
    have HS := Lib.hid (show ((k + 1 : Nat) : Int) * ofW c = (k : Int) * ofW c + ofW c by rw [Int.natCast_add, Int.add_mul]; simp)
    have hw : wrap64 ((k : Int) * ofW c + ofW c) = (k : Int) * ofW c + ofW c := by unfold wrap64; omega
    by_cases hlt : (k : Int) < c
    · go_wp2_with (first | (go_at_call 14; refine (next_any _ _ _).mono ?_; rintro e w' ⟨rfl, rfl⟩))
      go_round
      case rel => exact ⟨k + 1, by omega, by go_num, by rw [HS.out]⟩
      case measure => simp [intOf]; omega
    · have HK := Lib.hid (show (k : Int) = c by omega)
      have HV := Lib.hid (show (k : Int) * ofW c = 720720 by rw [HK.out, Int.mul_comm]; exact HE.out)
      have he : ofW c * c = 720720 := HE.out
      have ha : ofW (c + 16) = 0 := HA.out
      have hv : (k : Int) * ofW c = 720720 := HV.out
      go_wp2_with (first | (go_at_call 10; refine (of_any _ _).mono ?_; rintro e w' ⟨rfl, rfl⟩))
      go_ret
      exact ⟨rfl, rfl⟩

theorem scales_run (o nw a b c d r p q : Int) (n0 : 0 ≤ nw) (n2 : nw ≤ 2199023255552) (p0 : 0 ≤ p) (p1 : p ≤ 2199023255552) (hic : isW c = true)
    (a0 : 0 ≤ a) (a1 : a ≤ 255) (b0 : 0 ≤ b) (b1 : b ≤ 255) (o0 : 0 ≤ o) (o1 : o ≤ 4294967295) (n1 : nw ≤ 4294967295) 
    (hc : a % 16 + 1 = c) (hd : b % 16 + 1 = d) (pc : 45045 ≤ ofW c) (qc : ofW c ≤ 720720) (hr : o % (ofW c + 1) = r) (hw1 : wrap64 (ofW c + 1) = ofW c + 1) (hw2 : wrap64 (nw + r) = p) (hw3 : wrap64 (nw + ofW d) = nw + ofW d)
    (hs : scaleW p nw c d = q) (s1 : nw ≤ q) (s2 : q ≤ nw + ofW d) (s3 : c = d → q = p) (s4 : nw < p ∨ (p = nw ∧ q = nw)) (w : World) :
    Calls Try.prog 5 #[.int .u32 o, .int .u32 nw, .int .u8 a, .int .u8 b] w fun e w' => e = .returned (.bool true) ∧ w = w' := by
  have hz : ¬ ofW c + 1 = 0 := by omega
  rcases s4 with h4 | ⟨h4, h5⟩
  · by_cases hcd : c = d
    · have := s3 hcd
      subst this; subst hcd
      clear s3
      go_enter Try.func5, Try.ntmps5
      go_wp2_with (first | (go_at_call 7; refine (known_any _).mono ?_; rintro e w' ⟨rfl, rfl⟩) | (go_at_call 10; refine (of_any _ _).mono ?_; rintro e w' ⟨rfl, rfl⟩) | (go_at_call 16; refine (scale_any _ _ _ _ _ hic n0 p1 n2 p0).mono ?_; rintro e w' ⟨rfl, rfl⟩))
      go_ret
      exact ⟨ret_bool (by simp), rfl⟩
    · clear s3
      go_enter Try.func5, Try.ntmps5
      go_wp2_with (first | (go_at_call 7; refine (known_any _).mono ?_; rintro e w' ⟨rfl, rfl⟩) | (go_at_call 10; refine (of_any _ _).mono ?_; rintro e w' ⟨rfl, rfl⟩) | (go_at_call 16; refine (scale_any _ _ _ _ _ hic n0 p1 n2 p0).mono ?_; rintro e w' ⟨rfl, rfl⟩))
      go_ret
      exact ⟨ret_bool (by simp), rfl⟩
  · subst h5; subst h4
    clear s3
    by_cases hcd : c = d
    · subst hcd
      go_enter Try.func5, Try.ntmps5
      go_wp2_with (first | (go_at_call 7; refine (known_any _).mono ?_; rintro e w' ⟨rfl, rfl⟩) | (go_at_call 10; refine (of_any _ _).mono ?_; rintro e w' ⟨rfl, rfl⟩) | (go_at_call 16; refine (scale_any _ _ _ _ _ hic n0 p1 n2 p0).mono ?_; rintro e w' ⟨rfl, rfl⟩))
      go_ret
      exact ⟨ret_bool (by simp), rfl⟩
    ·
      go_enter Try.func5, Try.ntmps5
      go_wp2_with (first | (go_at_call 7; refine (known_any _).mono ?_; rintro e w' ⟨rfl, rfl⟩) | (go_at_call 10; refine (of_any _ _).mono ?_; rintro e w' ⟨rfl, rfl⟩) | (go_at_call 16; refine (scale_any _ _ _ _ _ hic n0 p1 n2 p0).mono ?_; rintro e w' ⟨rfl, rfl⟩))
      go_ret
      exact ⟨ret_bool (by simp), rfl⟩

theorem scales_walk (o nw a b : Int) (o0 : 0 ≤ o) (o1 : o ≤ 4294967295) (n0 : 0 ≤ nw) (n1 : nw ≤ 4294967295) (a0 : 0 ≤ a) (a1 : a ≤ 255) (b0 : 0 ≤ b) (b1 : b ≤ 255) (w : World) :
    Calls Try.prog 5 #[.int .u32 o, .int .u32 nw, .int .u8 a, .int .u8 b] w fun e w' => e = .returned (.bool true) ∧ w = w' := by
  have hic : isW (a % 16 + 1) = true := isW_true.2 ⟨by omega, by omega⟩
  have pc := ofW_pos hic
  have ⟨_, qc⟩ := ofW_bounds (a % 16 + 1)
  have ⟨_, qd⟩ := ofW_bounds (b % 16 + 1)
  have r0 : 0 ≤ o % (ofW (a % 16 + 1) + 1) := Int.emod_nonneg _ (by omega)
  have r1 : o % (ofW (a % 16 + 1) + 1) ≤ ofW (a % 16 + 1) := by have := Int.emod_lt_of_pos o (b := ofW (a % 16 + 1) + 1) (by omega); omega
  have ⟨s1, s2, s3, s4⟩ := scaleW_in (n := nw) (y := b % 16 + 1) r0 r1 hic
  refine scales_run o nw a b _ _ _ (nw + o % (ofW (a % 16 + 1) + 1)) _ n0 (by omega) (by omega) (by omega) hic a0 a1 b0 b1 o0 o1 n1 rfl rfl pc qc rfl ?_ ?_ ?_ rfl s1 s2 s3 ?_ w
  · unfold wrap64; omega
  · unfold wrap64; omega
  · unfold wrap64; omega
  · by_cases hz : o % (ofW (a % 16 + 1) + 1) = 0
    · right; exact ⟨by omega, s4 hz⟩
    · left; omega

theorem heavier_run (a b n m c d : Int) (f : Bool) (a0 : 0 ≤ a) (a1 : a ≤ 255) (b0 : 0 ≤ b) (b1 : b ≤ 255) (n0 : 0 ≤ n) (n1 : n ≤ 65535) (m0 : 0 ≤ m) (m1 : m ≤ 65535)
    (hc : a % 16 + 1 = c) (hd : b % 16 + 1 = d) (c1 : 1 ≤ c) (c2 : c ≤ 16) (d1 : 1 ≤ d) (d2 : d ≤ 16) (hec : ofW c * c = 720720) (hed : ofW d * d = 720720) (hw : wrap64 720720 = 720720)
    (hf : fairB n c m d = f) (hf1 : fairB m d n c = f) (hf2 : fairB (n + c) c (m + d) d = f) (hf3 : fairB n c n c = true) (hf4 : fairB 0 c 1 d = true)
    (hlt : (ofW c < ofW d ∧ d < c) ∨ (¬ ofW c < ofW d ∧ ¬ d < c)) (w : World) :
    Calls Try.prog 6 #[.int .u8 a, .int .u8 b, .int .u16 n, .int .u16 m] w fun e w' => e = .returned (.bool true) ∧ w = w' := by
  rcases hlt with ⟨h1, h2⟩ | ⟨h1, h2⟩
  · cases f
    ·
      go_enter Try.func6, Try.ntmps6
      go_wp2_with (first | (go_at_call 7; refine (known_any _).mono ?_; rintro e w' ⟨rfl, rfl⟩) | (go_at_call 10; refine (of_any _ _).mono ?_; rintro e w' ⟨rfl, rfl⟩) | (go_at_call 12; refine (fair_any _ _ _ _ _).mono ?_; rintro e w' ⟨rfl, rfl⟩))
      go_ret
      exact ⟨ret_bool (by simp), rfl⟩
    ·
      go_enter Try.func6, Try.ntmps6
      go_wp2_with (first | (go_at_call 7; refine (known_any _).mono ?_; rintro e w' ⟨rfl, rfl⟩) | (go_at_call 10; refine (of_any _ _).mono ?_; rintro e w' ⟨rfl, rfl⟩) | (go_at_call 12; refine (fair_any _ _ _ _ _).mono ?_; rintro e w' ⟨rfl, rfl⟩))
      go_ret
      exact ⟨ret_bool (by simp), rfl⟩
  · cases f
    ·
      go_enter Try.func6, Try.ntmps6
      go_wp2_with (first | (go_at_call 7; refine (known_any _).mono ?_; rintro e w' ⟨rfl, rfl⟩) | (go_at_call 10; refine (of_any _ _).mono ?_; rintro e w' ⟨rfl, rfl⟩) | (go_at_call 12; refine (fair_any _ _ _ _ _).mono ?_; rintro e w' ⟨rfl, rfl⟩))
      go_ret
      exact ⟨ret_bool (by simp), rfl⟩
    ·
      go_enter Try.func6, Try.ntmps6
      go_wp2_with (first | (go_at_call 7; refine (known_any _).mono ?_; rintro e w' ⟨rfl, rfl⟩) | (go_at_call 10; refine (of_any _ _).mono ?_; rintro e w' ⟨rfl, rfl⟩) | (go_at_call 12; refine (fair_any _ _ _ _ _).mono ?_; rintro e w' ⟨rfl, rfl⟩))
      go_ret
      exact ⟨ret_bool (by simp), rfl⟩

theorem heavier_walk (a b n m : Int) (a0 : 0 ≤ a) (a1 : a ≤ 255) (b0 : 0 ≤ b) (b1 : b ≤ 255) (n0 : 0 ≤ n) (n1 : n ≤ 65535) (m0 : 0 ≤ m) (m1 : m ≤ 65535) (w : World) :
    Calls Try.prog 6 #[.int .u8 a, .int .u8 b, .int .u16 n, .int .u16 m] w fun e w' => e = .returned (.bool true) ∧ w = w' := by
  have c1 : 1 ≤ a % 16 + 1 := by omega
  have c2 : a % 16 + 1 ≤ 16 := by omega
  have d1 : 1 ≤ b % 16 + 1 := by omega
  have d2 : b % 16 + 1 ≤ 16 := by omega
  have ha := ofW_anti c1 c2 d1 d2
  refine heavier_run a b n m _ _ (fairB n (a % 16 + 1) m (b % 16 + 1)) a0 a1 b0 b1 n0 n1 m0 m1 rfl rfl c1 c2 d1 d2 (ofW_exact c1 c2) (ofW_exact d1 d2) (by unfold wrap64; rfl) rfl (fairB_comm ..) (fairB_more n0 n1 m0 m1 c1 c2 d1 d2) (fairB_self ..) (fairB_first ..) ?_ w
  by_cases h : b % 16 + 1 < a % 16 + 1
  · left; exact ⟨ha.2 h, h⟩
  · right; exact ⟨fun k => h (ha.1 k), h⟩

end Go.Proofs.Ytoijganmfabkaaa
