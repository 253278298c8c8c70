/-
  ShareWhole: the walk.
-/
import Derived.Test.YtfghfmlhoelbkaaShareMW
namespace Go.Proofs.Ytfghfmlhoelbkaa
open Go.RowKit Go.Proofs.YtfghfmlhoelbkaaW.PrintWords
set_option linter.unusedSimpArgs false
set_option linter.unusedVariables false

theorem whole_out (P : Option Addr) (c : Nat) (l : List Int) (w : World) (hl : Kd.C (Kd.int .u8) w P l.length l) (hn : l.length < 1 ∨ 6 < l.length) :
    Calls Try.prog 7 #[.slice P l.length c] w fun e w' => e = .returned (.bool true) ∧ Below w.heap.size w w' := by
  have n1 := hl.2.1
  rcases hn with hn | hn
  · have hn' : (l.length : Int) < 1 := by omega
    go_enter Try.func7, Try.ntmps7
    go_wp2_with (go_at_call 8; refine (known_any _).mono ?_; rintro e w1 ⟨rfl, hb1⟩)
    go_ret
    exact ⟨rfl, hb1⟩
  · have hn' : 6 < (l.length : Int) := by omega
    go_enter Try.func7, Try.ntmps7
    go_wp2_with (go_at_call 8; refine (known_any _).mono ?_; rintro e w1 ⟨rfl, hb1⟩)
    go_ret
    exact ⟨rfl, hb1⟩

/-- What is to be shown of shares that make the frame. -/
theorem whole_pure {n : Nat} {C : Nat → Int} (hn : 1 ≤ n ∧ n ≤ 6) (hC : ∀ j, j < n → 0 ≤ C j ∧ C j ≤ 9) (h1 : 1 ≤ totN C n) :
    cntN (totN C n) n C = tab n C ∧ exB (totN C n) (tab n C) (tab n C) = true := by
  have hX : ∀ j, j < n → X (tab n C) j = C j := fun j hj => tab_X n C hj
  have h9 : totN C n ≤ n * 9 := by
    have : ∀ k, k ≤ n → totN C k ≤ k * 9 := by
      intro k
      induction k with
      | zero => intro _; simp [totN]
      | succ k ih =>
        intro hk
        have := ih (by omega)
        have := hC k (by omega)
        simp only [totN]; omega
    exact this n (Nat.le_refl _)
  have o1 : may (totN C n) n C := ⟨h1, by omega, hn.1, hn.2, okB_of (fun j hj => by have := hC j hj; omega)⟩
  have e1 : shSum (totN C n) n C = totN C n := by unfold shSum; rw [if_pos o1]
  have e2 : shSum (totN C n) n (X (tab n C)) = totN C n := by rw [shSum_congr hX, e1]
  refine ⟨?_, ?_⟩
  · unfold cntN
    rw [e1, if_neg (by omega)]
    exact tab_congr (counts_whole h1)
  · unfold exB
    rw [tab_len, e2, decide_eq_false (show ¬ totN C n = 0 by omega), totN_congr hX]
    have hle := le_totN o1.2.2.2.2
    have : exOk (totN C n) (totN C n) (X (tab n C)) (X (tab n C)) n = true := exOk_of (fun j hj => by
      have := hle j hj
      have := hC j hj
      rw [hX j hj, Int.mul_comm (C j)]
      omega)
    rw [this]; simp

set_option maxHeartbeats 1600000 in
theorem whole_in (P : Option Addr) (c : Nat) (l : List Int) (w : World) (hl : Kd.C (Kd.int .u8) w P l.length l) (hw : ∀ x ∈ l, (Lit.int .u8 x).wf = true) (hn1 : 1 ≤ l.length) (hn6 : l.length ≤ 6) :
    Calls Try.prog 7 #[.slice P l.length c] w fun e w' => e = .returned (.bool true) ∧ Below w.heap.size w w' := by
  obtain ⟨i0, hi, hz0, hz1, hz2⟩ := info_parts int_info
  obtain ⟨n, hnn⟩ : ∃ n, n = l.length := ⟨_, rfl⟩
  have HL := Lib.hid hl
  have HX : ∀ j, j < n → 0 ≤ X l j ∧ X l j ≤ 255 := fun j hj => X_u8 hw (by omega)
  have HN := Lib.hid hnn
  rw [← hnn] at hn1 hn6 ⊢
  have hn1' : (1 : Int) ≤ (n : Int) := by omega
  have hn6' : (n : Int) ≤ 6 := by omega
  clear hnn hl hw
  go_enter Try.func7, Try.ntmps7
  go_wp2_with (go_at_call 8; refine (known_any _).mono ?_; rintro e w1 ⟨rfl, hb1⟩)
  have HL1 := Lib.hid (Kd.C_below HL.out hb1)
  have HB : ∀ k, k ≤ n → 0 ≤ totN (fun j => X l j % 10) k ∧ totN (fun j => X l j % 10) k ≤ 6000 := fun k hk => by
    have := totN_small (n := k) (Y := fun j => X l j % 10) (fun j hj => by have := HX j (by omega); omega)
    omega
  go_loopw [3, 4, 5] (fun va s i wr => ∃ k : Nat, k ≤ n ∧ i = .int .i64 k ∧ s = .int .i64 (totN (fun j => X l j % 10) k) ∧ wr.ownsRow w1.heap.size 3 1 va k (ints k (fun j => X l j % 10)) ∧ Below w1.heap.size w1 wr) (fun _ _ i _ => n - (intOf i).toNat)
  case atStart => exact ⟨0, Nat.zero_le _, rfl, rfl, World.ownsRow_nil _ _ _ _, Below.refl _ _⟩
  case round =>
    obtain ⟨k, hk, rfl, rfl, hA, hbel⟩ := hrel
    have ⟨t0, t1⟩ := HB k hk
    by_cases hlt : k < n
    · obtain ⟨ad, had, hc⟩ := Kd.at_int (Kd.C_below HL1.out hbel) (k : Int) (by omega) (by rw [← HN.out]; omega)
      rw [Int.toNat_natCast] at hc
      subst had
      have hX : rd l (k : Int) = X l k := rfl
      rw [hX] at hc
      clear hX
      have ⟨x0, x1⟩ := HX k hlt
      have HT := Lib.hid (show totN (fun j => X l j % 10) (k + 1) = totN (fun j => X l j % 10) k + X l k % 10 from rfl)
      generalize totN (fun j => X l j % 10) k = s at *
      have hsz := hbel.size
      have hm1 : k + 1 ≤ maxLen := by unfold maxLen; omega
      have hm3 : (k + 1) * 8 ≤ 140737488355328 := by omega
      go_wp2_with (at_builtin; refine wpList_append_lies _ rfl _ _ _ rfl w1.heap.size 3 i0 _ 1 8 Try.underlying22 hi hz0 hz1 hz2 rfl (by omega) _ k _ rfl (hA.alloc _) ⟨wr.heap.size, 0, none⟩ 1 1 [.int .i64 (X l k % 10)] rfl rfl (World.news_of_block (cs := #[.int .i64 (X l k % 10)]) (t := 3) (fr := (0, 0)) (heap_alloc_new wr _)) (by simp [Value.oneCell']) (by omega) hm1 hm3 (by simp; omega) (wr.heap.size + 1) (by simp) ?_)
      intro g cap w3 hA2 hg1 hat hlt1
      have hbel2 := (hbel.alloc (by omega) (.cells #[.int .i64 (X l k % 10)] 3)).grown hg1 (by simp; omega) (fun b hbq => (hA.lt b hbq).1)
      rw [← ints_succ k (fun j => X l j % 10)] at hA2
      obtain ⟨g', cap', hv, hcb, hg0, hfr, hce, hset⟩ := row_set hA2 (by omega)
      injection hv with hv1 hv2 hv3
      injection hv1 with hv1
      injection hv1 with hv1
      subst hv1
      have c1 := hce k (by omega)
      clear hA hbel hc hg1 hat hsz hfr hce hset hcb hv3 hv2 hg0
      go_wp2_with fail
      go_roundw
      case rel => exact ⟨k + 1, by omega, by go_num, by rw [HT.out], hA2, hbel2⟩
      case measure => simp [intOf]; omega
    · obtain rfl : k = n := by omega
      obtain ⟨A, ca, rfl, hca, hCA⟩ := row_C hA
      by_cases h1 : 1 ≤ totN (fun j => X l j % 10) k
      case neg =>
        generalize totN (fun j => X l j % 10) k = s at *
        go_wp2
        go_ret
        exact ⟨rfl, hb1.trans (hbel.mono hb1.size)⟩
      have ⟨q1, q2⟩ := whole_pure (C := fun j => X l j % 10) ⟨hn1, hn6⟩ (fun j hj => by have := HX j hj; omega) h1
      have Q1 := Lib.hid q1
      have Q2 := Lib.hid q2
      clear q1 q2 HB hA
      generalize totN (fun j => X l j % 10) k = f at *
      go_wp2_with fail
      refine (counts_tab wr f A k ca _ hCA hca).mono ?_
      rw [Q1.out, tab_len]
      rintro e w3 ⟨A3, c3, rfl, hc3, hC3, hb3⟩
      have hCA3 := Kd.C_below hCA hb3
      have hex := exact_any w3 f A (tab k (fun j => X l j % 10)) ca A (tab k (fun j => X l j % 10)) ca
      rw [tab_len, Q2.out] at hex
      have hex2 := hex hCA3 hca hCA3 hca
      clear hex
      go_wp2_with (go_at_call 12; refine hex2.mono ?_; rintro e w4 ⟨rfl, nd, rfl⟩)
      have hbw := hb1.trans ((hbel.mono hb1.size).trans (hb3.mono (Nat.le_trans hb1.size hbel.size)))
      clear Q1 Q2 hex2 hb1 hb3 hbel h1
      go_loopw [7] (fun i wq => ∃ j n2 : Nat, j ≤ k ∧ i = .int .i64 j ∧ wq = w3.drewN n2) (fun i _ => k - (intOf i).toNat)
      case atStart => exact ⟨0, nd, Nat.zero_le _, rfl, rfl⟩
      case round =>
        obtain ⟨j, n2, hj, rfl, rfl⟩ := hrel
        by_cases hlt : j < k
        · have j0 : (0 : Int) ≤ (j : Int) := Int.natCast_nonneg _
          have j1 : (j : Int) < (k : Int) := by omega
          obtain ⟨ad2, had2, y2⟩ := Kd.at_int hC3 (j : Int) (by omega) (by omega)
          obtain ⟨ad3, had3, y3⟩ := Kd.at_int hCA3 (j : Int) (by omega) (by omega)
          rw [Int.toNat_natCast] at y2 y3
          subst had2 had3
          generalize rd (tab k (fun j => X l j % 10)) (j : Int) = v at y2 y3
          go_wp2_with fail
          go_quiet (fail)
          go_wp2
          go_roundw
          case rel => exact ⟨j + 1, _, by omega, by go_num, rfl⟩
          case measure => simp [intOf]; omega
        · obtain rfl : j = k := by omega
          go_wp2
          go_ret
          exact ⟨rfl, below_drewN hbw _⟩

theorem whole_walk (P : Option Addr) (c : Nat) (l : List Int) (w : World) (hl : Kd.C (Kd.int .u8) w P l.length l) (hw : ∀ x ∈ l, (Lit.int .u8 x).wf = true) :
    Calls Try.prog 7 #[.slice P l.length c] w fun e w' => e = .returned (.bool true) ∧ Below w.heap.size w w' := by
  by_cases hn : l.length < 1 ∨ 6 < l.length
  · exact whole_out P c l w hl hn
  · exact whole_in P c l w hl hw (by omega) (by omega)
end Go.Proofs.Ytfghfmlhoelbkaa
