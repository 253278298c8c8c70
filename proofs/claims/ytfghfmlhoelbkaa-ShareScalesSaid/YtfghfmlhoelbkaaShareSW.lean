/-
  ShareScales: the walk.
-/
import Derived.Test.YtfghfmlhoelbkaaShareV
namespace Go.Proofs.Ytfghfmlhoelbkaa
open Go.RowKit Go.Proofs.YtfghfmlhoelbkaaW.PrintWords
set_option linter.unusedSimpArgs false
set_option linter.unusedVariables false

theorem scales_out (a0 a2 : Int) (P : Option Addr) (c : Nat) (l : List Int) (w : World) (hl : Kd.C (Kd.int .u8) w P l.length l) (hn : l.length < 1 ∨ 6 < l.length) :
    Calls Try.prog 5 #[.int .u8 a0, .slice P l.length c, .int .u8 a2] w fun e w' => e = .returned (.bool true) ∧ Below w.heap.size w w' := by
  have n1 := hl.2.1
  rcases hn with hn | hn
  · have hn' : (l.length : Int) < 1 := by omega
    go_enter Try.func5, Try.ntmps5
    go_wp2_with (go_at_call 8; refine (known_any _).mono ?_; rintro e w1 ⟨rfl, hb1⟩)
    go_ret
    exact ⟨rfl, hb1⟩
  · have hn' : 6 < (l.length : Int) := by omega
    go_enter Try.func5, Try.ntmps5
    go_wp2_with (go_at_call 8; refine (known_any _).mono ?_; rintro e w1 ⟨rfl, hb1⟩)
    go_ret
    exact ⟨rfl, hb1⟩

theorem scale_pure {f m : Int} {n : Nat} {C D : Nat → Int} (hf : 1 ≤ f ∧ f ≤ 64) (hm : 1 ≤ m ∧ m ≤ 20) (hn : 1 ≤ n ∧ n ≤ 6) (hC : ∀ j, j < n → 0 ≤ C j ∧ C j ≤ 49) (hD : ∀ j, j < n → D j = m * C j) : cntN f n C = cntN f n D := by
  have hD2 : ∀ j, j < n → 0 ≤ m * C j ∧ m * C j ≤ 1000 := fun j hj => by
    have ⟨a, b⟩ := hC j hj
    exact ⟨Int.mul_nonneg (by omega) a, Int.le_trans (Int.mul_le_mul hm.2 b a (by omega)) (by omega)⟩
  rw [cntN_congr hD]
  have o1 : may f n C := ⟨hf.1, hf.2, hn.1, hn.2, okB_of (fun j hj => by have := hC j hj; omega)⟩
  have o2 : may f n (fun j => m * C j) := ⟨hf.1, hf.2, hn.1, hn.2, okB_of hD2⟩
  have e1 : shSum f n C = totN C n := by unfold shSum; rw [if_pos o1]
  have e2 : shSum f n (fun j => m * C j) = totN (fun j => m * C j) n := by unfold shSum; rw [if_pos o2]
  have ht := totN_mul m C n
  have b1 := totN_small (n := n) (Y := C) (fun j hj => by have := hC j hj; omega)
  have b2 := totN_small (n := n) (Y := fun j => m * C j) hD2
  unfold cntN
  rw [e1, e2]
  by_cases hz : totN C n = 0
  · rw [if_pos hz, if_pos (by rw [ht, hz]; simp)]
  · have hz2 : ¬ totN (fun j => m * C j) n = 0 := by
      rw [ht]; intro h
      rcases Int.mul_eq_zero.1 h with h | h <;> omega
    rw [if_neg hz, if_neg hz2]
    refine tab_congr fun j hj => ?_
    exact (counts_scale hm.1 o1 (by omega) (by omega) o2 (by omega) j hj).symm

set_option maxHeartbeats 1600000 in
theorem scales_in (a0 a2 : Int) (P : Option Addr) (c : Nat) (l : List Int) (w : World) (hl : Kd.C (Kd.int .u8) w P l.length l) (hw : ∀ x ∈ l, (Lit.int .u8 x).wf = true) (h0 : 0 ≤ a0 ∧ a0 ≤ 255) (h2 : 0 ≤ a2 ∧ a2 ≤ 255) (hn1 : 1 ≤ l.length) (hn6 : l.length ≤ 6) :
    Calls Try.prog 5 #[.int .u8 a0, .slice P l.length c, .int .u8 a2] w fun e w' => e = .returned (.bool true) ∧ Below w.heap.size w w' := by
  obtain ⟨i0, hi, hz0, hz1, hz2⟩ := info_parts int_info
  obtain ⟨n, hnn⟩ : ∃ n, n = l.length := ⟨_, rfl⟩
  have HL := Lib.hid hl
  have HX : ∀ j, j < n → 0 ≤ X l j ∧ X l j ≤ 255 := fun j hj => X_u8 hw (by omega)
  have HN := Lib.hid hnn
  rw [← hnn] at hn1 hn6 ⊢
  have hn1' : (1 : Int) ≤ (n : Int) := by omega
  have hn6' : (n : Int) ≤ 6 := by omega
  clear hnn hl hw
  go_enter Try.func5, Try.ntmps5
  go_wp2_with (go_at_call 8; refine (known_any _).mono ?_; rintro e w1 ⟨rfl, hb1⟩)
  obtain ⟨f, hf⟩ : ∃ f, f = a0 % 64 + 1 := ⟨_, rfl⟩
  obtain ⟨m, hm⟩ : ∃ m, m = a2 % 20 + 1 := ⟨_, rfl⟩
  have hf0 : 1 ≤ f ∧ f ≤ 64 := by omega
  have hm0 : 1 ≤ m ∧ m ≤ 20 := by omega
  rw [← hf, ← hm]
  have HF := Lib.hid hf
  have HM := Lib.hid hm
  clear hf hm h0 h2
  obtain ⟨hm1, hm2⟩ := hm0
  have HL1 := Lib.hid (Kd.C_below HL.out hb1)
  go_loopw [9, 10, 11] (fun va vb i wr => ∃ k : Nat, k ≤ n ∧ i = .int .i64 k ∧ wr.ownsRow w1.heap.size 3 1 va k (ints k (fun j => X l j % 50)) ∧ wr.ownsRow w1.heap.size 3 1 vb k (ints k (fun j => X l j % 50 * m)) ∧ Apart va vb ∧ Below w1.heap.size w1 wr) (fun _ _ i _ => n - (intOf i).toNat)
  case atStart => exact ⟨0, Nat.zero_le _, rfl, World.ownsRow_nil _ _ _ _, World.ownsRow_nil _ _ _ _, fun x hx => by simp [Value.ownBlock] at hx, Below.refl _ _⟩
  case round =>
    obtain ⟨k, hk, rfl, hA, hB, hap, hbel⟩ := hrel
    by_cases hlt : k < n
    · obtain ⟨ad, had, hc⟩ := Kd.at_int (Kd.C_below HL1.out hbel) (k : Int) (by omega) (by rw [← HN.out]; omega)
      rw [Int.toNat_natCast] at hc
      subst had
      have hX : rd l (k : Int) = X l k := rfl
      rw [hX] at hc
      clear hX
      have ⟨x0, x1⟩ := HX k hlt
      have p0 : 0 ≤ X l k % 50 * m := Int.mul_nonneg (by omega) (by omega)
      have p1 : X l k % 50 * m ≤ 1000 := Int.le_trans (Int.mul_le_mul (show X l k % 50 ≤ 49 by omega) hm2 (by omega) (by omega)) (by omega)
      have hsz := hbel.size
      have hm1 : k + 1 ≤ maxLen := by unfold maxLen; omega
      have hm3 : (k + 1) * 8 ≤ 140737488355328 := by omega
      go_wp2_with (at_builtin; refine wpList_append_lies _ rfl _ _ _ rfl w1.heap.size 3 i0 _ 1 8 Try.underlying22 hi hz0 hz1 hz2 rfl (by omega) _ k _ rfl (hA.alloc _) ⟨wr.heap.size, 0, none⟩ 1 1 [.int .i64 (X l k % 50)] rfl rfl (World.news_of_block (cs := #[.int .i64 (X l k % 50)]) (t := 3) (fr := (0, 0)) (heap_alloc_new wr _)) (by simp [Value.oneCell']) (by omega) hm1 hm3 (by simp; omega) (wr.heap.size + 1) (by simp) ?_)
      intro g cap w2 hA2 hg1 hat hlt1
      have hbel2 := (hbel.alloc (by omega) (.cells #[.int .i64 (X l k % 50)] 3)).grown hg1 (by simp; omega) (fun b hbq => (hA.lt b hbq).1)
      have hB2 := (hB.alloc (.cells #[.int .i64 (X l k % 50)] 3)).kept hg1 hap.kept
      have hap2 : Apart (.slice (some ⟨g, 0, none⟩) (k + 1) cap) u10 := hap.grow hB hat
      obtain ⟨ad2, had2, hc2⟩ := Kd.at_int (Kd.C_below HL1.out hbel2) (k : Int) (by omega) (by rw [← HN.out]; omega)
      injection had2 with had2
      subst had2
      rw [Int.toNat_natCast] at hc2
      have hX : rd l (k : Int) = X l k := rfl
      rw [hX] at hc2
      clear hX hA hB hap hbel hc hg1 hat hsz
      have hsz := hbel2.size
      go_wp2_with (at_builtin; refine wpList_append_lies _ rfl _ _ _ rfl w1.heap.size 3 i0 _ 1 8 Try.underlying22 hi hz0 hz1 hz2 rfl (by omega) _ k _ rfl (hB2.alloc _) ⟨w2.heap.size, 0, none⟩ 1 1 [.int .i64 (X l k % 50 * m)] rfl rfl (World.news_of_block (cs := #[.int .i64 (X l k % 50 * m)]) (t := 3) (fr := (0, 0)) (heap_alloc_new w2 _)) (by simp [Value.oneCell']) (by omega) hm1 hm3 (by simp; omega) (w2.heap.size + 1) (by simp) ?_)
      intro g2 cap2 w3 hB3 hg2 hat2 hlt3
      have hbel3 := (hbel2.alloc (by omega) (.cells #[.int .i64 (X l k % 50 * m)] 3)).grown hg2 (by simp; omega) (fun b hbq => (hB2.lt b hbq).1)
      have hA3 := (hA2.alloc (.cells #[.int .i64 (X l k % 50 * m)] 3)).kept hg2 hap2.swap.kept
      have hap3 := (hap2.swap.grow (n := k + 1) (cap := cap2) hA2 hat2).swap
      clear hA2 hB2 hap2 hbel2 hc2 hg2 hat2 hsz
      go_wp2_with fail
      go_roundw
      case rel => exact ⟨k + 1, by omega, by go_num, by rw [ints_succ]; exact hA3, by rw [ints_succ]; exact hB3, hap3, hbel3⟩
      case measure => simp [intOf]; omega
    · obtain rfl : k = n := by omega
      obtain ⟨A, ca, rfl, hca, hCA⟩ := row_C hA
      obtain ⟨B, cb, rfl, hcb, hCB⟩ := row_C hB
      go_wp2_with fail
      refine (counts_tab wr f A k ca _ hCA hca).mono ?_
      rintro e w2 ⟨A2, c2, rfl, hc2, hC2, hb2⟩
      go_wp2_with fail
      refine (counts_tab w2 f B k cb _ (Kd.C_below hCB hb2) hcb).mono ?_
      rintro e w3 ⟨A3, c3, rfl, hc3, hC3, hb3⟩
      go_wp2_with fail
      have he : cntN f k (fun j => X l j % 50) = cntN f k (fun j => X l j % 50 * m) := scale_pure hf0 ⟨hm1, hm2⟩ ⟨hn1, hn6⟩ (fun j hj => by have := HX j hj; omega) (fun j _ => Int.mul_comm _ _)
      have hlen : (cntN f k (fun j => X l j % 50)).length ≤ 1000 := by
        have := cnt_len f (tab k (fun j => X l j % 50)); rw [cnt_tab] at this; omega
      have hd := decide_eq_true he
      refine (same_any w3 A2 _ c2 A3 _ c3 hlen (Kd.C_below hC2 hb3) hc2 hC3 hc3).mono ?_
      rw [hd]
      clear hd he hlen
      rintro e w4 ⟨rfl, nd, rfl⟩
      go_wp2
      go_ret
      exact ⟨rfl, below_drewN (hb1.trans ((hbel.mono hb1.size).trans ((hb2.mono (Nat.le_trans hb1.size hbel.size)).trans (hb3.mono (Nat.le_trans hb1.size (Nat.le_trans hbel.size hb2.size)))))) _⟩

theorem scales_walk (a0 a2 : Int) (P : Option Addr) (c : Nat) (l : List Int) (w : World) (hl : Kd.C (Kd.int .u8) w P l.length l) (hw : ∀ x ∈ l, (Lit.int .u8 x).wf = true) (h0 : 0 ≤ a0 ∧ a0 ≤ 255) (h2 : 0 ≤ a2 ∧ a2 ≤ 255) :
    Calls Try.prog 5 #[.int .u8 a0, .slice P l.length c, .int .u8 a2] w fun e w' => e = .returned (.bool true) ∧ Below w.heap.size w w' := by
  by_cases hn : l.length < 1 ∨ 6 < l.length
  · exact scales_out a0 a2 P c l w hl hn
  · exact scales_in a0 a2 P c l w hl hw h0 h2 (by omega) (by omega)
end Go.Proofs.Ytfghfmlhoelbkaa
