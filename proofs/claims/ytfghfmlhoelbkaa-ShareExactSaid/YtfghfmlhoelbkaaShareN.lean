/-
  What share.Counts answers, by a contract.
-/
import Derived.Test.YtfghfmlhoelbkaaShareS
namespace Go.Proofs.Ytfghfmlhoelbkaa
open Go.RowKit Go.Proofs.YtfghfmlhoelbkaaW.PrintWords
set_option linter.unusedSimpArgs false
set_option linter.unusedVariables false
attribute [local go_sem] run_store_complex

theorem int_info : (Try.prog.info? 3).map (fun i => (i.zero, i.size, i.bytes)) = some (some (.int .i64 0), 1, 8) := by kernel_rfl

theorem counts_zero (w : World) (f : Int) (P : Option Addr) (l : List Int) (c : Nat) (hl : Kd.C (Kd.int .i64) w P l.length l) (hc : l.length ≤ c) (hz : shSum f l.length (X l) = 0) :
    Calls Try.prog 10 #[.int .i64 f, .slice P l.length c] w fun e w' => ∃ v, e = .returned v ∧ Kd.R (Kd.int .i64) 3 w' w.heap.size (fun _ => True) v (cnt f l) ∧ Below w.heap.size w w' := by
  have HL := Lib.hid hl
  have HE : Hid (cnt f l = []) := Lib.hid (by unfold cnt; rw [if_pos hz])
  have HS := sum_any w f P l c hl hc
  rw [hz] at HS
  clear hz hl
  go_enter Try.func10, Try.ntmps10
  go_wp2_with (go_at_call 14; refine HS.mono ?_; rintro e w' ⟨rfl, nd, rfl⟩)
  go_ret
  exact ⟨_, rfl, by rw [HE.out]; exact Kd.R_nil _ _ _ _ _, below_drewN (Below.refl _ _) _⟩

theorem may_of {f : Int} {n : Nat} {Y : Nat → Int} (h : ¬ shSum f n Y = 0) : may f n Y := by
  unfold shSum at h
  by_cases hm : may f n Y
  · exact hm
  · rw [if_neg hm] at h; exact absurd rfl h

theorem parts_small {f all : Int} {n : Nat} {Y : Nat → Int} (h : may f n Y) (h1 : 1 ≤ all) (h2 : all ≤ 6000) (hall : ∀ j, j < n → Y j ≤ all) : ∀ j, j < n → 0 ≤ Qs f all Y j ∧ Qs f all Y j ≤ 64 ∧ 0 ≤ Rs f all Y j ∧ Rs f all Y j ≤ 1000000 := by
  intro j hj
  obtain ⟨a1, a2, a3, a4, a5⟩ := h
  have ⟨b1, b2⟩ := okB_at a5 j hj
  have b3 := hall j hj
  have hp : 0 ≤ f * Y j := Int.mul_nonneg (by omega) b1
  have hp2 : f * Y j ≤ 64 * all := Int.le_trans (Int.mul_le_mul_of_nonneg_right a2 b1) (Int.mul_le_mul_of_nonneg_left b3 (by omega))
  have q1 := Int.ediv_nonneg hp (show 0 ≤ all by omega)
  have q2 : f * Y j / all ≤ 64 := by
    have := Int.ediv_le_ediv (show 0 < all by omega) hp2
    rwa [Int.mul_ediv_cancel _ (by omega)] at this
  have r1 := Int.emod_nonneg (f * Y j) (show all ≠ 0 by omega)
  have r2 := Int.emod_lt_of_pos (f * Y j) (show 0 < all by omega)
  unfold Qs Rs
  omega

theorem le_totN {Y : Nat → Int} : ∀ {n : Nat}, okB Y n = true → ∀ j, j < n → Y j ≤ totN Y n
  | 0, _, j, hj => by omega
  | n + 1, h, j, hj => by
    have h' := h
    simp only [okB, Bool.and_eq_true, decide_eq_true_eq] at h
    have hb := totN_bounds h.1.1
    simp only [totN]
    by_cases e : j = n
    · subst e; omega
    · have := le_totN h.1.1 j (by omega); omega

theorem totQ_bounds {Q : Nat → Int} : ∀ {n : Nat}, (∀ j, j < n → 0 ≤ Q j ∧ Q j ≤ 64) → 0 ≤ totN Q n ∧ totN Q n ≤ 64 * n
  | 0, _ => by simp [totN]
  | n + 1, h => by
    have := totQ_bounds (fun j hj => h j (Nat.lt_succ_of_lt hj))
    have := h n (by omega)
    simp only [totN]; omega

set_option maxHeartbeats 1600000 in
theorem counts_some (w : World) (f : Int) (P : Option Addr) (l : List Int) (c : Nat) (hl : Kd.C (Kd.int .i64) w P l.length l) (hc : l.length ≤ c) (hz : ¬ shSum f l.length (X l) = 0) :
    Calls Try.prog 10 #[.int .i64 f, .slice P l.length c] w fun e w' => ∃ v, e = .returned v ∧ Kd.R (Kd.int .i64) 3 w' w.heap.size (fun _ => True) v (cnt f l) ∧ Below w.heap.size w w' := by
  have hm := may_of hz
  have ⟨s1, s2⟩ := shSum_bounds f l.length (X l)
  have hall : ∀ j, j < l.length → X l j ≤ shSum f l.length (X l) := by unfold shSum; rw [if_pos hm]; exact le_totN hm.2.2.2.2
  have hps := parts_small hm (by omega) s2 hall
  have hE : cnt f l = tab l.length (shC f l.length (X l) (shSum f l.length (X l))) := by unfold cnt; rw [if_neg hz]
  unfold shC at hE
  have HL := Lib.hid hl
  have HS := sum_any w f P l c hl hc
  obtain ⟨m1, m2, m3, m4, m5⟩ := hm
  have hbX : ∀ j, j < l.length → 0 ≤ f * X l j ∧ f * X l j ≤ 64000 := fun j hj => by
    have ⟨b1, b2⟩ := okB_at m5 j hj
    exact ⟨Int.mul_nonneg (by omega) b1, Int.le_trans (Int.mul_le_mul_of_nonneg_right m2 b1) (by omega)⟩
  have HP := fun (W : World) (h : Kd.C (Kd.int .i64) W P l.length l) => parts_any W f (shSum f l.length (X l)) P l c h hbX (by omega) m4
  generalize hQ : Qs f (shSum f l.length (X l)) (X l) = Q at hps hE HP
  generalize hR : Rs f (shSum f l.length (X l)) (X l) = R at hps hE HP
  clear hQ hR hall hbX m5
  generalize shSum f l.length (X l) = all at *
  generalize hn : l.length = n at *
  have HN := Lib.hid hn
  have HE := Lib.hid hE
  clear hn hE hl
  have hsm := fun m => run_small (n := n) (s := (Q, R)) hps m
  have hq : ∀ j, j < n → 0 ≤ Q j ∧ Q j ≤ 64 := fun j hj => ⟨(hps j hj).1, (hps j hj).2.1⟩
  obtain ⟨i0, hi, hz0, hz1, hz2⟩ := info_parts int_info
  go_enter Try.func10, Try.ntmps10
  go_wp2_with (first
    | (go_at_call 14; refine HS.mono ?_; rintro e w' ⟨rfl, nd, rfl⟩)
    | (go_at_call 15; refine (HP _ (Kd.C_drewN HL.out _)).mono ?_; rintro e w1 ⟨v, rfl, hown, hbel⟩; obtain ⟨b, cap, rfl, hb0, hcap, hrow⟩ := crow_own hown (by omega)))
  have hbel0 : Below w.heap.size w w1 := (below_drewN (Below.refl _ w) _).trans hbel
  have hbw : w.heap.size ≤ b := hb0
  clear hb0 hbel hown HP HS
  go_loop [7, 26] (fun v i => ∃ k : Nat, k ≤ n ∧ i = .int .i64 k ∧ v = .int .i64 (f - totN Q k)) (fun _ i => n - (intOf i).toNat)
  case atStart => exact ⟨0, Nat.zero_le _, rfl, by simp [totN]⟩
  case round =>
    obtain ⟨k, hk, rfl, rfl⟩ := hrel
    have HT := Lib.hid (show totN Q (k + 1) = totN Q k + Q k from rfl)
    by_cases hlt : k < n
    · have c1 := hrow.cell hlt
      have ⟨q0, q1⟩ := hq k hlt
      have ⟨t0, t1⟩ := totQ_bounds (n := k) (fun j hj => hq j (by omega))
      have cv := fun W => run_convert_float_int (P := Try.prog) W 38 3 .f64 .i64 _ (Q k) (by rw [Try.underlying38]; rfl) Try.underlying3 (fl_toInt (by omega))
      go_wp2
      go_round
      case rel => exact ⟨k + 1, by omega, by go_num, by rw [HT.out]; go_num⟩
      case measure => simp [intOf]; omega
    · obtain rfl : k = n := by omega
      clear HT
      go_wp2
      have ⟨t0, t1⟩ := totQ_bounds (n := k) hq
      obtain ⟨left, hleft⟩ : ∃ left, left = f - totN Q k := ⟨_, rfl⟩
      have HLf := Lib.hid hleft
      have l1 : left ≤ 64 := by omega
      rw [← hleft]
      rw [← hleft] at HE
      clear hleft t0 t1
      obtain ⟨M, hM⟩ : ∃ M, M = left.toNat := ⟨_, rfl⟩
      have HM := Lib.hid hM
      have hM6 : M ≤ 64 := by omega
      rw [← hM] at HE
      clear hM
      go_loopw [37] (fun i wr => ∃ m : Nat, m ≤ M ∧ i = .int .i64 m ∧ CRow wr b k (run k m (Q, R)).1 (run k m (Q, R)).2 ∧ Below w.heap.size w wr) (fun i _ => M - (intOf i).toNat)
      case atStart => exact ⟨0, Nat.zero_le _, rfl, hrow, hbel0⟩
      case round =>
        obtain ⟨m, hmle, rfl, hrw, hbel⟩ := hrel
        by_cases hlt2 : m < M
        · have hml : (m : Int) < left := by have := HM.out; omega
          have HR := Lib.hid (show run k (m + 1) (Q, R) = stepS k (run k m (Q, R)) from rfl)
          have hs0 := hsm m
          generalize run k m (Q, R) = s at *
          have hg := gr_lt s.2 k (by omega)
          have c1 := hrw.cell hg
          have f1 := hrw.frozen (gr s.2 k)
          have ⟨q0, q1, q2, q3⟩ := hs0 _ hg
          have hg0 : (0 : Int) ≤ (gr s.2 k : Int) := Int.natCast_nonneg _
          have hg1 : (gr s.2 k : Int) < (k : Int) := by omega
          have ha := fun w => run_float_arith (P := Try.prog) w .add 38 .f64 _ _ _ (show floatBits .add .f64 (floatOfInt .f64 (s.1 (gr s.2 k))) 4607182418800017408 = some (floatOfInt .f64 (s.1 (gr s.2 k) + 1)) by rw [← fl_one]; exact fl_add (by omega) (by omega) (by omega))
          have HG := greatest_any wr b k cap s.1 s.2 hrw (fun j hj => ⟨(hs0 j hj).2.2.1, (hs0 j hj).2.2.2⟩) (by omega) (by omega)
          clear hs0 hsm hq hps
          go_wp2_with (go_at_call 16; refine HG.mono ?_; rintro e w' ⟨rfl, rfl⟩)
          go_roundw
          case rel =>
            refine ⟨m + 1, by omega, by go_num, ?_, hbel.setCell (by simpa using hbw) _⟩
            have := hrw.set (gr s.2 k) (s.1 (gr s.2 k) + 1) (-1)
            rw [HR.out]
            simpa only [cx, fl_neg_one, stepS] using this
          case measure => simp [intOf]; omega
        · obtain rfl : m = M := by omega
          have hml : left ≤ (m : Int) := by have := HM.out; omega
          have hs0 := hsm m
          generalize run k m (Q, R) = s at *
          obtain ⟨C, D⟩ := s
          dsimp only at hrw hs0 HE
          obtain ⟨w2, rfl⟩ : ∃ w2, w2 = wr := ⟨wr, rfl⟩
          have hbr := hrw.lt
          go_wp2
          go_loopw [11, 54] (fun v i wq => ∃ j : Nat, j ≤ k ∧ i = .int .i64 j ∧ wq.ownsRow w2.heap.size 3 1 v j ((tab j C).map (Value.int .i64)) ∧ Below w2.heap.size w2 wq) (fun _ i _ => k - (intOf i).toNat)
          case atStart => exact ⟨0, Nat.zero_le _, rfl, World.ownsRow_nil _ _ _ _, Below.refl _ _⟩
          case round =>
            obtain ⟨j, hj, rfl, hown, hbj⟩ := hrel
            by_cases hlt3 : j < k
            · have c1 := (hrw.of_block (hbj.block b hbr)).cell hlt3
              have ⟨q0, q1, q2, q3⟩ := hs0 j hlt3
              have cv := fun W => run_convert_float_int (P := Try.prog) W 38 3 .f64 .i64 _ (C j) (by rw [Try.underlying38]; rfl) Try.underlying3 (fl_toInt (by omega))
              dsimp only [cx] at c1
              go_wp2_with (at_builtin; refine wpList_append_own _ rfl _ _ 22 rfl w2.heap.size 3 i0 (.int .i64 0) 1 8 Try.underlying22 hi hz0 hz1 hz2 rfl (by decide) _ _ _ rfl (hown.alloc _) ⟨wr.heap.size, 0, none⟩ 1 1 [.int .i64 (C j)] rfl rfl ?c1 ?c2 ?c3 ?c4 ?c5 ?_)
              case c1 =>
                intro i u hi
                match i, hi with
                | 0, hi => simp at hi; subst hi; simp [Addr.add]
              case c2 => intro u hu; simp at hu; subst hu; rfl
              case c3 => unfold maxLen; omega
              case c4 => omega
              case c5 => have := hbj.size; simp; omega
              intro v' w3 hown' hgrow _
              go_wp2
              go_roundw
              case rel => exact ⟨j + 1, by omega, by go_num, by rw [tab_succ, List.map_append]; exact hown', (hbj.alloc (by have := hbj.size; omega) _).grown hgrow (by have := hbj.size; simp; omega) (fun b hbq => (hown.lt b hbq).1)⟩
              case measure => simp [intOf]; omega
            · obtain rfl : j = k := by omega
              go_wp2
              go_ret
              have hsz := hbel.size
              refine ⟨_, rfl, ?_, hbel.trans (hbj.mono hsz)⟩
              rw [HE.out]
              refine Kd.R_of_own ?_ (fun _ _ => trivial)
              rw [tab_len]
              exact own_weaken hown hsz

theorem counts_any (w : World) (f : Int) (P : Option Addr) (l : List Int) (c : Nat) (hl : Kd.C (Kd.int .i64) w P l.length l) (hc : l.length ≤ c) :
    Calls Try.prog 10 #[.int .i64 f, .slice P l.length c] w fun e w' => ∃ v, e = .returned v ∧ Kd.R (Kd.int .i64) 3 w' w.heap.size (fun _ => True) v (cnt f l) ∧ Below w.heap.size w w' := by
  by_cases hz : shSum f l.length (X l) = 0
  · exact counts_zero w f P l c hl hc hz
  · exact counts_some w f P l c hl hc hz
end Go.Proofs.Ytfghfmlhoelbkaa
