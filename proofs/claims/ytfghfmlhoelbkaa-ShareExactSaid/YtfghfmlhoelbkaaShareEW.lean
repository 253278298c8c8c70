/-
  ShareExact: the walk.
-/
import Derived.Test.YtfghfmlhoelbkaaShareMW
namespace Go.Proofs.Ytfghfmlhoelbkaa
open Go.RowKit Go.Proofs.YtfghfmlhoelbkaaW.PrintWords
set_option linter.unusedSimpArgs false
set_option linter.unusedVariables false

set_option maxRecDepth 100000 in
theorem exact_out (a0 : Int) (P : Option Addr) (c : Nat) (l : List Int) (w : World) (hl : Kd.C (Kd.int .u16) w P l.length l) (hn : l.length < 1 ∨ 6 < l.length) :
    Calls Try.prog 4 #[.int .u8 a0, .slice P l.length c] w fun e w' => e = .returned (.bool true) ∧ Below w.heap.size w w' := by
  have n1 := hl.2.1
  rcases hn with hn | hn
  · have hn' : (l.length : Int) < 1 := by omega
    go_enter Try.func4, Try.ntmps4
    go_wp2_with (go_at_call 8; refine (known_any _).mono ?_; rintro e w1 ⟨rfl, hb1⟩)
    go_ret
    exact ⟨rfl, hb1⟩
  · have hn' : 6 < (l.length : Int) := by omega
    go_enter Try.func4, Try.ntmps4
    go_wp2_with (go_at_call 8; refine (known_any _).mono ?_; rintro e w1 ⟨rfl, hb1⟩)
    go_ret
    exact ⟨rfl, hb1⟩

theorem cntN_none {f : Int} {n : Nat} {C : Nat → Int} (h : totN C n = 0) : cntN f n C = [] := by
  have hz : shSum f n C = 0 := by
    unfold shSum
    by_cases hm : may f n C
    · rw [if_pos hm]; exact h
    · rw [if_neg hm]
  unfold cntN; rw [if_pos hz]

/-- What is to be shown of the counts of a row that is not all nought. -/
structure Fair (f : Int) (n : Nat) (C V : Nat → Int) : Prop where
  tot : totN V n = f
  near : ∀ j, j < n → 0 ≤ V j ∧ V j ≤ 64 ∧ V j * totN C n - f * C j < totN C n ∧ -totN C n < V j * totN C n - f * C j ∧ (C j = 0 → V j = 0)
  order : ∀ i k, i < n → k < i → (C i < C k → V i ≤ V k) ∧ (C k < C i → V k ≤ V i) ∧ (C k = C i → V i ≤ V k)

theorem exact_pure {f : Int} {n : Nat} {C : Nat → Int} (hf : 1 ≤ f ∧ f ≤ 64) (hn : 1 ≤ n ∧ n ≤ 6) (hC : ∀ j, j < n → 0 ≤ C j ∧ C j ≤ 1000) (hz : ¬ totN C n = 0) :
    ∃ V, cntN f n C = tab n V ∧ exB f (tab n C) (tab n V) = true ∧ Fair f n C V := by
  have hX : ∀ j, j < n → X (tab n C) j = C j := fun j hj => tab_X n C hj
  have hok : okB C n = true := okB_of hC
  have o1 : may f n C := ⟨hf.1, hf.2, hn.1, hn.2, hok⟩
  have e1 : shSum f n C = totN C n := by unfold shSum; rw [if_pos o1]
  have b1 := totN_bounds hok
  have h1 : 1 ≤ totN C n := by omega
  have h2 : totN C n ≤ 6000 := by omega
  have htot := counts_sum o1 h1 h2
  have hnear := fun j (hj : j < n) => counts_near o1 h1 h2 hj
  have hle : ∀ j, j < n → shC f n C (totN C n) j ≤ f := fun j hj => by
    have key : ∀ k, k ≤ n → (∀ j, j < k → shC f n C (totN C n) j ≤ totN (shC f n C (totN C n)) k) ∧ 0 ≤ totN (shC f n C (totN C n)) k := by
      intro k
      induction k with
      | zero => intro _; exact ⟨fun j hj => by omega, by simp [totN]⟩
      | succ k ih =>
        intro hk
        have ⟨i1, i2⟩ := ih (by omega)
        have i3 := (hnear k (by omega)).1
        simp only [totN]
        refine ⟨fun j hj => ?_, by omega⟩
        by_cases e : j = k
        · subst e; omega
        · have := i1 j (by omega); omega
    have := (key n (Nat.le_refl _)).1 j hj
    omega
  refine ⟨shC f n C (totN C n), by unfold cntN; rw [e1, if_neg hz], ?_, htot, fun j hj => ?_, fun i k hi hk => ⟨fun h => counts_order o1 h1 h2 hi (by omega) (Or.inl h), fun h => counts_order o1 h1 h2 (by omega) hi (Or.inl h), fun h => counts_order o1 h1 h2 hi (by omega) (Or.inr ⟨h.symm, hk⟩)⟩⟩
  · unfold exB
    have e2 : shSum f n (X (tab n C)) = totN C n := by rw [shSum_congr hX, e1]
    have hV : ∀ j, j < n → X (tab n (shC f n C (totN C n))) j = shC f n C (totN C n) j := fun j hj => tab_X n _ hj
    rw [tab_len, tab_len, e2, decide_eq_false hz, totN_congr hV, htot]
    have : exOk f (totN C n) (X (tab n C)) (X (tab n (shC f n C (totN C n)))) n = true := exOk_of (fun j hj => by
      have h3 := hnear j hj
      have h4 := hle j hj
      rw [hX j hj, hV j hj]
      exact ⟨h3.1, h4, h3.2.2.1, h3.2.1⟩)
    rw [this]; simp
  · have h3 := hnear j hj
    have h4 := hle j hj
    exact ⟨h3.1, by omega, h3.2.1, h3.2.2.1, h3.2.2.2⟩

set_option maxHeartbeats 1600000 in
set_option maxRecDepth 100000 in
theorem exact_in (a0 : Int) (P : Option Addr) (c : Nat) (l : List Int) (w : World) (hl : Kd.C (Kd.int .u16) w P l.length l) (hw : ∀ x ∈ l, (Lit.int .u16 x).wf = true) (h0 : 0 ≤ a0 ∧ a0 ≤ 255) (hn1 : 1 ≤ l.length) (hn6 : l.length ≤ 6) :
    Calls Try.prog 4 #[.int .u8 a0, .slice P l.length c] w fun e w' => e = .returned (.bool true) ∧ Below w.heap.size w w' := by
  obtain ⟨i0, hi, hz0, hz1, hz2⟩ := info_parts int_info
  obtain ⟨n, hnn⟩ : ∃ n, n = l.length := ⟨_, rfl⟩
  have HL := Lib.hid hl
  have HX : ∀ j, j < n → 0 ≤ X l j ∧ X l j ≤ 65535 := fun j hj => X_u16 hw (by omega)
  have HN := Lib.hid hnn
  rw [← hnn] at hn1 hn6 ⊢
  have hn1' : (1 : Int) ≤ (n : Int) := by omega
  have hn6' : (n : Int) ≤ 6 := by omega
  clear hnn hl hw
  go_enter Try.func4, Try.ntmps4
  go_wp2_with (go_at_call 8; refine (known_any _).mono ?_; rintro e w1 ⟨rfl, hb1⟩)
  obtain ⟨f, hf⟩ : ∃ f, f = a0 % 64 + 1 := ⟨_, rfl⟩
  have hf0 : 1 ≤ f ∧ f ≤ 64 := by omega
  rw [← hf]
  clear hf
  have HL1 := Lib.hid (Kd.C_below HL.out hb1)
  have HB : ∀ k, k ≤ n → 0 ≤ totN (fun j => X l j % 1001) k ∧ totN (fun j => X l j % 1001) k ≤ 6000 := fun k hk => by
    have := totN_small (n := k) (Y := fun j => X l j % 1001) (fun j hj => by have := HX j (by omega); omega)
    omega
  go_loopw [6, 7, 8] (fun s va i wr => ∃ k : Nat, k ≤ n ∧ i = .int .i64 k ∧ s = .int .i64 (totN (fun j => X l j % 1001) k) ∧ wr.ownsRow w1.heap.size 3 1 va k (ints k (fun j => X l j % 1001)) ∧ Below w1.heap.size w1 wr) (fun _ _ i _ => n - (intOf i).toNat)
  case atStart => exact ⟨0, Nat.zero_le _, rfl, rfl, World.ownsRow_nil _ _ _ _, Below.refl _ _⟩
  case round =>
    obtain ⟨k, hk, rfl, rfl, hA, hbel⟩ := hrel
    have ⟨t0, t1⟩ := HB k hk
    by_cases hlt : k < n
    · obtain ⟨ad, had, hc⟩ := Kd.at_int (Kd.C_below HL1.out hbel) (k : Int) (by omega) (by rw [← HN.out]; omega)
      rw [Int.toNat_natCast] at hc
      subst had
      have hX : rd l (k : Int) = X l k := rfl
      rw [hX] at hc
      clear hX
      have ⟨x0, x1⟩ := HX k hlt
      have HT := Lib.hid (show totN (fun j => X l j % 1001) (k + 1) = totN (fun j => X l j % 1001) k + X l k % 1001 from rfl)
      generalize totN (fun j => X l j % 1001) k = s at *
      have hsz := hbel.size
      have hm1 : k + 1 ≤ maxLen := by unfold maxLen; omega
      have hm3 : (k + 1) * 8 ≤ 140737488355328 := by omega
      go_wp2_with (at_builtin; refine wpList_append_lies _ rfl _ _ _ rfl w1.heap.size 3 i0 _ 1 8 Try.underlying22 hi hz0 hz1 hz2 rfl (by omega) _ k _ rfl (hA.alloc _) ⟨wr.heap.size, 0, none⟩ 1 1 [.int .i64 (X l k % 1001)] rfl rfl (World.news_of_block (cs := #[.int .i64 (X l k % 1001)]) (t := 3) (fr := (0, 0)) (heap_alloc_new wr _)) (by simp [Value.oneCell']) (by omega) hm1 hm3 (by simp; omega) (wr.heap.size + 1) (by simp) ?_)
      intro g cap w3 hA2 hg1 hat hlt1
      have hbel2 := (hbel.alloc (by omega) (.cells #[.int .i64 (X l k % 1001)] 3)).grown hg1 (by simp; omega) (fun b hbq => (hA.lt b hbq).1)
      rw [← ints_succ k (fun j => X l j % 1001)] at hA2
      obtain ⟨g', cap', hv, hcb, hg0, hfr, hce, hset⟩ := row_set hA2 (by omega)
      injection hv with hv1 hv2 hv3
      injection hv1 with hv1
      injection hv1 with hv1
      subst hv1
      have c1 := hce k (by omega)
      clear hA hbel hc hg1 hat hsz hfr hce hset hcb hv3 hv2 hg0
      go_wp2_with fail
      go_roundw
      case rel => exact ⟨k + 1, by omega, by go_num, by rw [HT.out], hA2, hbel2⟩
      case measure => simp [intOf]; omega
    · obtain rfl : k = n := by omega
      obtain ⟨A, ca, rfl, hca, hCA⟩ := row_C hA
      have hc0 : ∀ j, j < k → 0 ≤ X l j % 1001 ∧ X l j % 1001 ≤ 1000 := fun j hj => by have := HX j hj; omega
      by_cases hz : totN (fun j => X l j % 1001) k = 0
      · have Q1 := Lib.hid (cntN_none (f := f) hz)
        rw [hz]
        clear hz
        go_wp2_with fail
        refine (counts_tab wr f A k ca _ hCA hca).mono ?_
        rw [Q1.out]
        rintro e w3 ⟨A3, c3, rfl, hc3, hC3, hb3⟩
        go_wp2
        go_ret
        exact ⟨rfl, hb1.trans ((hbel.mono hb1.size).trans (hb3.mono (Nat.le_trans hb1.size hbel.size)))⟩
      obtain ⟨V, q1, q2, hfair⟩ := exact_pure (C := fun j => X l j % 1001) hf0 ⟨hn1, hn6⟩ hc0 hz
      have Q1 := Lib.hid q1
      have Q2 := Lib.hid q2
      obtain ⟨htot, hnear, hord⟩ := hfair
      have HTOT := Lib.hid htot
      clear q1 q2 HB hA htot HX
      obtain ⟨Y, hY⟩ : ∃ Y : Nat → Int, Y = fun j => X l j % 1001 := ⟨_, rfl⟩
      rw [← hY] at hCA hz Q1 Q2 t0 t1 ⊢
      have hnear2 : ∀ j, j < k → 0 ≤ V j ∧ V j ≤ 64 ∧ V j * totN Y k - f * Y j < totN Y k ∧ -totN Y k < V j * totN Y k - f * Y j ∧ (Y j = 0 → V j = 0) := by rw [hY]; exact hnear
      have hord2 : ∀ i q, i < k → q < i → (Y i < Y q → V i ≤ V q) ∧ (Y q < Y i → V q ≤ V i) ∧ (Y q = Y i → V i ≤ V q) := by rw [hY]; exact hord
      have hc2 : ∀ j, j < k → 0 ≤ Y j ∧ Y j ≤ 1000 := by rw [hY]; exact hc0
      clear hY hnear hord hc0
      generalize totN Y k = all at *
      go_wp2_with fail
      have HN2 := Lib.hid hnear2
      have HO2 := Lib.hid hord2
      have HC2 := Lib.hid hc2
      clear hnear2 hord2 hc2
      refine (counts_tab wr f A k ca _ hCA hca).mono ?_
      rw [Q1.out, tab_len]
      rintro e w3 ⟨A3, c3, rfl, hc3, hC3, hb3⟩
      have hCA3 := Kd.C_below hCA hb3
      have hex := exact_any w3 f A (tab k Y) ca A3 (tab k V) c3
      rw [tab_len, tab_len, Q2.out] at hex
      have hex2 := hex hCA3 hca hC3 hc3
      clear hex
      go_wp2_with (go_at_call 12; refine hex2.mono ?_; rintro e w4 ⟨rfl, nd, rfl⟩)
      have hbw := hb1.trans ((hbel.mono hb1.size).trans (hb3.mono (Nat.le_trans hb1.size hbel.size)))
      clear Q1 Q2 hex2 hb1 hb3 hbel hCA
      have HCA := Lib.hid hCA3
      have HC3 := Lib.hid hC3
      have ⟨⟨adA, hadA, _⟩, ⟨adC, hadC, _⟩⟩ := And.intro (Kd.at_int hCA3 0 (by omega) (by omega)) (Kd.at_int hC3 0 (by omega) (by omega))
      subst hadA hadC
      clear hCA3 hC3
      have hcell : ∀ j, j < k → w3.cell? (adA.add j) = some (.int .i64 (Y j)) ∧ w3.cell? (adC.add j) = some (.int .i64 (V j)) := fun j hj => by
        obtain ⟨ad2, had2, y2⟩ := Kd.at_int HCA.out (j : Int) (by omega) (by omega)
        obtain ⟨ad3, had3, y3⟩ := Kd.at_int HC3.out (j : Int) (by omega) (by omega)
        injection had2 with had2
        injection had3 with had3
        subst had2 had3
        rw [Int.toNat_natCast] at y2 y3
        have e2 : rd (tab k Y) (j : Int) = Y j := tab_X k Y hj
        have e3 : rd (tab k V) (j : Int) = V j := tab_X k V hj
        rw [e2] at y2; rw [e3] at y3
        exact ⟨y2, y3⟩
      have HCE := Lib.hid hcell
      clear hcell
      have HVS : Hid (∀ j, j ≤ k → 0 ≤ totN V j ∧ totN V j ≤ 64 * j) := Lib.hid (fun j hj => totQ_bounds (n := j) (fun i hi => ⟨(HN2.out i (by omega)).1, (HN2.out i (by omega)).2.1⟩))
      go_loopw [10, 11] (fun s i wq => ∃ j n2 : Nat, j ≤ k ∧ i = .int .i64 j ∧ s = .int .i64 (totN V j) ∧ wq = w3.drewN n2) (fun _ i _ => k - (intOf i).toNat)
      case atStart => exact ⟨0, nd, Nat.zero_le _, rfl, rfl, rfl⟩
      case round =>
        obtain ⟨j, n2, hj, rfl, rfl, rfl⟩ := hrel
        by_cases hlt : j < k
        case neg =>
          obtain rfl : j = k := by omega
          have ht := HTOT.out
          rw [ht]
          clear ht
          go_wp2
          go_ret
          exact ⟨rfl, below_drewN hbw _⟩
        have j0 : (0 : Int) ≤ (j : Int) := Int.natCast_nonneg _
        have j1 : (j : Int) < (k : Int) := by omega
        have ⟨y2, y3⟩ := HCE.out j hlt
        have ⟨v0, v1, v2, v3, v4⟩ := HN2.out j hlt
        have ⟨u0, u1⟩ := HC2.out j hlt
        have ⟨s0, s1⟩ := HVS.out j hj
        have HT := Lib.hid (show totN V (j + 1) = totN V j + V j from rfl)
        have m0 : 0 ≤ V j * all := Int.mul_nonneg v0 t0
        have m1 : V j * all ≤ 64 * 6000 := Int.mul_le_mul v1 t1 t0 (by omega)
        have m2 : 0 ≤ f * Y j := Int.mul_nonneg (by omega) u0
        have m3 : f * Y j ≤ 64 * 1000 := Int.mul_le_mul hf0.2 u1 u0 (by omega)
        have HJ := HO2.out j
        generalize totN V j = sj at *
        have HO3 := Lib.hid (fun q (hq : q < j) => HJ q hlt hq)
        clear HJ
        obtain ⟨yj, hyj⟩ : ∃ y, y = Y j := ⟨_, rfl⟩
        obtain ⟨vj, hvj⟩ : ∃ v, v = V j := ⟨_, rfl⟩
        rw [← hyj] at y2 v2 v3 v4 u0 u1 m2 m3 HO3
        rw [← hvj] at y3 v0 v1 v2 v3 v4 m0 m1 HO3 HT
        have HYV := Lib.hid (And.intro hyj hvj)
        clear hyj hvj
        have key : ∀ (b : Bool), (yj == 0) = b → (b = true → (vj != 0) = false) := by
          intro b hb hbt
          subst hb
          have : yj = 0 := by simpa using hbt
          simp [v4 this]
        have HKY := Lib.hid key
        clear key
        go_wp2_with fail
        go_quiet (fail)
        obtain ⟨b0, hb0⟩ : ∃ b, (yj == 0) = b := ⟨_, rfl⟩
        cases b0 with
        | true =>
          have hv0 := HKY.out _ hb0 rfl
          go_wp2_with fail
          go_loopw [13] (fun i wq => ∃ q n3 : Nat, q ≤ j ∧ i = .int .i64 q ∧ wq = w3.drewN n3) (fun i _ => j - (intOf i).toNat)
          case atStart => exact ⟨0, _, Nat.zero_le _, rfl, rfl⟩
          case round =>
            obtain ⟨q, n3, hq, rfl, rfl⟩ := hrel
            by_cases hlt2 : q < j
            case neg =>
              obtain rfl : q = j := by omega
              go_wp2_with fail
              go_roundw
              case rel => exact ⟨q + 1, n3, by omega, by go_num, by rw [HT.out], rfl⟩
              case measure => simp [intOf]; omega
            have ⟨x2, x3⟩ := HCE.out q (by omega)
            have ⟨o1, o2, o3⟩ := HO3.out q hlt2
            have q0 : (0 : Int) ≤ (q : Int) := Int.natCast_nonneg _
            have q1 : (q : Int) < (k : Int) := by omega
            generalize Y q = yq at x2 o1 o2 o3
            generalize V q = vq at x3 o1 o2 o3
            rcases Int.lt_trichotomy yj yq with h | h | h
            · have ho := o1 h
              have d1 : decide (yj < yq) = true := by simpa using h
              have d2 : decide (yq < yj) = false := by simp; omega
              have d3 : (yq == yj) = false := by simp; omega
              have e1 : decide (vq < vj) = false := by simp; omega
              clear o1 o2 o3 h ho
              clear HT HKY
              go_wp2_with fail
              go_quiet (fail)
              go_wp2
              go_roundw
              case rel => exact ⟨q + 1, _, by omega, by go_num, rfl⟩
              case measure => simp [intOf]; omega
            · have ho := o3 h.symm
              have d1 : decide (yj < yq) = false := by simp; omega
              have d2 : decide (yq < yj) = false := by simp; omega
              have d3 : (yq == yj) = true := by simp; omega
              have e1 : decide (vq < vj) = false := by simp; omega
              clear o1 o2 o3 h ho
              clear HT HKY
              go_wp2_with fail
              go_quiet (fail)
              go_wp2
              go_roundw
              case rel => exact ⟨q + 1, _, by omega, by go_num, rfl⟩
              case measure => simp [intOf]; omega
            · have ho := o2 h
              have d1 : decide (yj < yq) = false := by simp; omega
              have d2 : decide (yq < yj) = true := by simp; omega
              have d3 : (yq == yj) = false := by simp; omega
              have e2 : decide (vj < vq) = false := by simp; omega
              clear o1 o2 o3 h ho
              clear HT HKY
              go_wp2_with fail
              go_quiet (fail)
              go_wp2
              go_roundw
              case rel => exact ⟨q + 1, _, by omega, by go_num, rfl⟩
              case measure => simp [intOf]; omega
        | false =>
          go_wp2_with fail
          go_loopw [13] (fun i wq => ∃ q n3 : Nat, q ≤ j ∧ i = .int .i64 q ∧ wq = w3.drewN n3) (fun i _ => j - (intOf i).toNat)
          case atStart => exact ⟨0, _, Nat.zero_le _, rfl, rfl⟩
          case round =>
            obtain ⟨q, n3, hq, rfl, rfl⟩ := hrel
            by_cases hlt2 : q < j
            case neg =>
              obtain rfl : q = j := by omega
              go_wp2_with fail
              go_roundw
              case rel => exact ⟨q + 1, n3, by omega, by go_num, by rw [HT.out], rfl⟩
              case measure => simp [intOf]; omega
            have ⟨x2, x3⟩ := HCE.out q (by omega)
            have ⟨o1, o2, o3⟩ := HO3.out q hlt2
            have q0 : (0 : Int) ≤ (q : Int) := Int.natCast_nonneg _
            have q1 : (q : Int) < (k : Int) := by omega
            generalize Y q = yq at x2 o1 o2 o3
            generalize V q = vq at x3 o1 o2 o3
            rcases Int.lt_trichotomy yj yq with h | h | h
            · have ho := o1 h
              have d1 : decide (yj < yq) = true := by simpa using h
              have d2 : decide (yq < yj) = false := by simp; omega
              have d3 : (yq == yj) = false := by simp; omega
              have e1 : decide (vq < vj) = false := by simp; omega
              clear o1 o2 o3 h ho
              clear HT HKY
              go_wp2_with fail
              go_quiet (fail)
              go_wp2
              go_roundw
              case rel => exact ⟨q + 1, _, by omega, by go_num, rfl⟩
              case measure => simp [intOf]; omega
            · have ho := o3 h.symm
              have d1 : decide (yj < yq) = false := by simp; omega
              have d2 : decide (yq < yj) = false := by simp; omega
              have d3 : (yq == yj) = true := by simp; omega
              have e1 : decide (vq < vj) = false := by simp; omega
              clear o1 o2 o3 h ho
              clear HT HKY
              go_wp2_with fail
              go_quiet (fail)
              go_wp2
              go_roundw
              case rel => exact ⟨q + 1, _, by omega, by go_num, rfl⟩
              case measure => simp [intOf]; omega
            · have ho := o2 h
              have d1 : decide (yj < yq) = false := by simp; omega
              have d2 : decide (yq < yj) = true := by simp; omega
              have d3 : (yq == yj) = false := by simp; omega
              have e2 : decide (vj < vq) = false := by simp; omega
              clear o1 o2 o3 h ho
              clear HT HKY
              go_wp2_with fail
              go_quiet (fail)
              go_wp2
              go_roundw
              case rel => exact ⟨q + 1, _, by omega, by go_num, rfl⟩
              case measure => simp [intOf]; omega

theorem exact_walk (a0 : Int) (P : Option Addr) (c : Nat) (l : List Int) (w : World) (hl : Kd.C (Kd.int .u16) w P l.length l) (hw : ∀ x ∈ l, (Lit.int .u16 x).wf = true) (h0 : 0 ≤ a0 ∧ a0 ≤ 255) :
    Calls Try.prog 4 #[.int .u8 a0, .slice P l.length c] w fun e w' => e = .returned (.bool true) ∧ Below w.heap.size w w' := by
  by_cases hn : l.length < 1 ∨ 6 < l.length
  · exact exact_out a0 P c l w hl hn
  · exact exact_in a0 P c l w hl hw h0 (by omega) (by omega)
end Go.Proofs.Ytfghfmlhoelbkaa
