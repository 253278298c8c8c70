/-
  ShareMore: the walk.
-/
import Derived.Test.YtfghfmlhoelbkaaShareV
namespace Go.Proofs.Ytfghfmlhoelbkaa
open Go.RowKit Go.Proofs.YtfghfmlhoelbkaaW.PrintWords
set_option linter.unusedSimpArgs false
set_option linter.unusedVariables false

theorem more_out (a0 a2 a3 : Int) (P : Option Addr) (c : Nat) (l : List Int) (w : World) (hl : Kd.C (Kd.int .u8) w P l.length l) (hn : l.length < 1 ∨ 6 < l.length) :
    Calls Try.prog 6 #[.int .u8 a0, .slice P l.length c, .int .u8 a2, .int .u8 a3] w fun e w' => e = .returned (.bool true) ∧ Below w.heap.size w w' := by
  have n1 := hl.2.1
  rcases hn with hn | hn
  · have hn' : (l.length : Int) < 1 := by omega
    go_enter Try.func6, Try.ntmps6
    go_wp2_with (go_at_call 8; refine (known_any _).mono ?_; rintro e w1 ⟨rfl, hb1⟩)
    go_ret
    exact ⟨rfl, hb1⟩
  · have hn' : 6 < (l.length : Int) := by omega
    go_enter Try.func6, Try.ntmps6
    go_wp2_with (go_at_call 8; refine (known_any _).mono ?_; rintro e w1 ⟨rfl, hb1⟩)
    go_ret
    exact ⟨rfl, hb1⟩

theorem cntN_len {f : Int} {n : Nat} {Y : Nat → Int} (h : ¬ shSum f n Y = 0) : (cntN f n Y).length = n := by
  unfold cntN; rw [if_neg h, tab_len]

/-- What is to be shown of two rows, the second with one share raised. -/
theorem more_pure {f d : Int} {n k : Nat} {C : Nat → Int} (hf : 1 ≤ f ∧ f ≤ 64) (hd : 0 ≤ d ∧ d ≤ 255) (hn : n ≤ 6) (hk : k < n) (hC : ∀ j, j < n → 1 ≤ C j ∧ C j ≤ 256) :
    (cntN f n C).length = n ∧ (cntN f n (upd C k (C k + d))).length = n ∧ X (cntN f n C) k ≤ X (cntN f n (upd C k (C k + d))) k := by
  have hD : ∀ j, j < n → 0 ≤ upd C k (C k + d) j ∧ upd C k (C k + d) j ≤ 1000 := fun j hj => by
    have h1 := hC j hj
    have h2 := hC k hk
    unfold upd; split <;> omega
  have o1 : may f n C := ⟨hf.1, hf.2, by omega, hn, okB_of (fun j hj => by have := hC j hj; omega)⟩
  have o2 : may f n (upd C k (C k + d)) := ⟨hf.1, hf.2, by omega, hn, okB_of hD⟩
  have e1 : shSum f n C = totN C n := by unfold shSum; rw [if_pos o1]
  have e2 : shSum f n (upd C k (C k + d)) = totN (upd C k (C k + d)) n := by unfold shSum; rw [if_pos o2]
  have hC0 : okB C n = true := okB_of (fun j hj => by have := hC j hj; omega)
  have b0 := le_totN hC0 k hk
  have b1 := totN_bounds hC0
  have b2 := totN_bounds (okB_of hD)
  have b3 := hC k hk
  have b4 := totN_upd (Y := C) (k := k) (v := C k + d) hk
  have z1 : ¬ shSum f n C = 0 := by omega
  have z2 : ¬ shSum f n (upd C k (C k + d)) = 0 := by omega
  refine ⟨cntN_len z1, cntN_len z2, ?_⟩
  unfold cntN
  rw [if_neg z1, if_neg z2, tab_X _ _ hk, tab_X _ _ hk, e1, e2]
  exact counts_more hk hd.1 o1 (by omega) (by omega) o2 (by omega)

/-- A row of n numbers that the call has made, to be written. -/
theorem row_set {w : World} {B n : Nat} {v : Value} {C : Nat → Int} (h : w.ownsRow B 3 1 v n (ints n C)) (hn : 0 < n) :
    ∃ g cap, v = .slice (some ⟨g, 0, none⟩) n cap ∧ n ≤ cap ∧ B ≤ g ∧ (∀ i, w.frozen? ⟨g, i, none⟩ = false) ∧ (∀ j, j < n → w.cell? ⟨g, j, none⟩ = some (.int .i64 (C j))) ∧
      ∀ k x, Kd.C (Kd.int .i64) (w.setCell ⟨g, k, none⟩ (.int .i64 x)) (some ⟨g, 0, none⟩) n (tab n (upd C k x)) := by
  rcases h.2 with ⟨_, h0⟩ | ⟨g, cap, cur, rfl, hb, hg, hnc, hcm, hs, htake⟩
  · omega
  · have hr : w.rowIs g 3 cap (fun j => cur[j]?.getD (.int .i64 0)) := ⟨cur, hg, by omega, fun i hi => by simp [Array.getElem?_eq_getElem (show i < cur.size by omega)]⟩
    have hv : ∀ j, j < n → cur[j]?.getD (.int .i64 0) = .int .i64 (C j) := fun j hj => by
      have e : (ints n C)[j]? = some (.int .i64 (C j)) := by simp [ints, tab, hj]
      rw [← htake, List.getElem?_take, if_pos (by omega), Array.getElem?_toList] at e
      simp [e]
    refine ⟨g, cap, rfl, hnc, hb, hr.frozen, fun j hj => by rw [hr.cell (i := j) (by omega), hv j hj], fun k x => ?_⟩
    refine ⟨tab_len _ _, by unfold maxLen at hcm; omega, fun _ => ⟨_, rfl, fun j p hp => ⟨[.int .i64 p], rfl, rfl, fun i u hi => ?_⟩⟩⟩
    have hi0 : i = 0 := by
      rcases i with _ | i
      · rfl
      · simp at hi
    subst hi0
    simp at hi
    subst hi
    show World.cell? _ ((⟨g, 0, none⟩ : Addr).add (j * 1 + 0)) = _
    rw [show j * 1 + 0 = j by omega, WideShapes.add_plain, Nat.zero_add]
    have hj : j < n := by have := (List.getElem?_eq_some_iff.1 hp).1; rwa [tab_len] at this
    rw [(hr.set k _).cell (i := j) (by omega)]
    have hp2 : upd C k x j = p := by simp [tab, hj] at hp; exact hp
    rw [← hp2]
    unfold upd
    by_cases e : j = k
    · simp [e]
    · simp [e, hv j hj]
theorem grown_set (w : World) (g i : Nat) (v : Value) : w.grownBy (w.setCell ⟨g, i, none⟩ v) (some g) :=
  ⟨rfl, rfl, rfl, by simp, fun k hk hne => Below.heap_setCell w _ v k (fun e => hne (by rw [e]))⟩

set_option maxHeartbeats 1600000 in
theorem more_in (a0 a2 a3 : Int) (P : Option Addr) (c : Nat) (l : List Int) (w : World) (hl : Kd.C (Kd.int .u8) w P l.length l) (hw : ∀ x ∈ l, (Lit.int .u8 x).wf = true) (h0 : 0 ≤ a0 ∧ a0 ≤ 255) (h2 : 0 ≤ a2 ∧ a2 ≤ 255) (h3 : 0 ≤ a3 ∧ a3 ≤ 255) (hn1 : 1 ≤ l.length) (hn6 : l.length ≤ 6) :
    Calls Try.prog 6 #[.int .u8 a0, .slice P l.length c, .int .u8 a2, .int .u8 a3] w fun e w' => e = .returned (.bool true) ∧ Below w.heap.size w w' := by
  obtain ⟨i0, hi, hz0, hz1, hz2⟩ := info_parts int_info
  obtain ⟨n, hnn⟩ : ∃ n, n = l.length := ⟨_, rfl⟩
  have HL := Lib.hid hl
  have HX : ∀ j, j < n → 0 ≤ X l j ∧ X l j ≤ 255 := fun j hj => X_u8 hw (by omega)
  have HN := Lib.hid hnn
  rw [← hnn] at hn1 hn6 ⊢
  have hn1' : (1 : Int) ≤ (n : Int) := by omega
  have hn6' : (n : Int) ≤ 6 := by omega
  have hnz : ¬ (n : Int) = 0 := by omega
  clear hnn hl hw
  go_enter Try.func6, Try.ntmps6
  go_wp2_with (go_at_call 8; refine (known_any _).mono ?_; rintro e w1 ⟨rfl, hb1⟩)
  repeat (go_quiet (fail))
  obtain ⟨f, hf⟩ : ∃ f, f = a0 % 64 + 1 := ⟨_, rfl⟩
  have hf0 : 1 ≤ f ∧ f ≤ 64 := by omega
  rw [← hf]
  obtain ⟨kk, hkk⟩ : ∃ kk : Nat, a2 % (n : Int) = (kk : Int) := ⟨(a2 % (n : Int)).toNat, by have := Int.emod_nonneg a2 hnz; omega⟩
  have hkn : kk < n := by have := Int.emod_lt_of_pos a2 (show 0 < (n : Int) by omega); omega
  rw [hkk]
  have hb2 : Below w.heap.size w (w1.drewN nq) := below_drewN hb1 _
  generalize w1.drewN nq = w2 at hb2 ⊢
  clear hf hkk hb1 hnz
  have HL1 := Lib.hid (Kd.C_below HL.out hb2)
  go_wp2
  go_loopw [11, 12, 13] (fun va vb i wr => ∃ k : Nat, k ≤ n ∧ i = .int .i64 k ∧ wr.ownsRow w2.heap.size 3 1 va k (ints k (fun j => X l j + 1)) ∧ wr.ownsRow w2.heap.size 3 1 vb k (ints k (fun j => X l j + 1)) ∧ Apart va vb ∧ Below w2.heap.size w2 wr) (fun _ _ i _ => n - (intOf i).toNat)
  case atStart => exact ⟨0, Nat.zero_le _, rfl, World.ownsRow_nil _ _ _ _, World.ownsRow_nil _ _ _ _, fun x hx => by simp [Value.ownBlock] at hx, Below.refl _ _⟩
  case round =>
    obtain ⟨k, hk, rfl, hA, hB, hap, hbel⟩ := hrel
    by_cases hlt : k < n
    · obtain ⟨ad, had, hc⟩ := Kd.at_int (Kd.C_below HL1.out hbel) (k : Int) (by omega) (by rw [← HN.out]; omega)
      rw [Int.toNat_natCast] at hc
      subst had
      have hX : rd l (k : Int) = X l k := rfl
      rw [hX] at hc
      clear hX
      have ⟨x0, x1⟩ := HX k hlt
      have hsz := hbel.size
      have hm1 : k + 1 ≤ maxLen := by unfold maxLen; omega
      have hm3 : (k + 1) * 8 ≤ 140737488355328 := by omega
      go_wp2_with (at_builtin; refine wpList_append_lies _ rfl _ _ _ rfl w2.heap.size 3 i0 _ 1 8 Try.underlying22 hi hz0 hz1 hz2 rfl (by omega) _ k _ rfl (hA.alloc _) ⟨wr.heap.size, 0, none⟩ 1 1 [.int .i64 (X l k + 1)] rfl rfl (World.news_of_block (cs := #[.int .i64 (X l k + 1)]) (t := 3) (fr := (0, 0)) (heap_alloc_new wr _)) (by simp [Value.oneCell']) (by omega) hm1 hm3 (by simp; omega) (wr.heap.size + 1) (by simp) ?_)
      intro g cap w3 hA2 hg1 hat hlt1
      have hbel2 := (hbel.alloc (by omega) (.cells #[.int .i64 (X l k + 1)] 3)).grown hg1 (by simp; omega) (fun b hbq => (hA.lt b hbq).1)
      have hB2 := (hB.alloc (.cells #[.int .i64 (X l k + 1)] 3)).kept hg1 hap.kept
      have hap2 : Apart (.slice (some ⟨g, 0, none⟩) (k + 1) cap) u12 := hap.grow hB hat
      obtain ⟨ad2, had2, hc2⟩ := Kd.at_int (Kd.C_below HL1.out hbel2) (k : Int) (by omega) (by rw [← HN.out]; omega)
      injection had2 with had2
      subst had2
      rw [Int.toNat_natCast] at hc2
      have hX : rd l (k : Int) = X l k := rfl
      rw [hX] at hc2
      clear hX hA hB hap hbel hc hg1 hat hsz
      have hsz := hbel2.size
      go_wp2_with (at_builtin; refine wpList_append_lies _ rfl _ _ _ rfl w2.heap.size 3 i0 _ 1 8 Try.underlying22 hi hz0 hz1 hz2 rfl (by omega) _ k _ rfl (hB2.alloc _) ⟨w3.heap.size, 0, none⟩ 1 1 [.int .i64 (X l k + 1)] rfl rfl (World.news_of_block (cs := #[.int .i64 (X l k + 1)]) (t := 3) (fr := (0, 0)) (heap_alloc_new w3 _)) (by simp [Value.oneCell']) (by omega) hm1 hm3 (by simp; omega) (w3.heap.size + 1) (by simp) ?_)
      intro g2 cap2 w4 hB3 hg2 hat2 hlt3
      have hbel3 := (hbel2.alloc (by omega) (.cells #[.int .i64 (X l k + 1)] 3)).grown hg2 (by simp; omega) (fun b hbq => (hB2.lt b hbq).1)
      have hA3 := (hA2.alloc (.cells #[.int .i64 (X l k + 1)] 3)).kept hg2 hap2.swap.kept
      have hap3 := (hap2.swap.grow (n := k + 1) (cap := cap2) hA2 hat2).swap
      clear hA2 hB2 hap2 hbel2 hc2 hg2 hat2 hsz
      go_wp2_with fail
      go_roundw
      case rel => exact ⟨k + 1, by omega, by go_num, by rw [ints_succ]; exact hA3, by rw [ints_succ]; exact hB3, hap3, hbel3⟩
      case measure => simp [intOf]; omega
    · obtain rfl : k = n := by omega
      obtain ⟨g, cb, rfl, hcb, hg0, hfr, hce, hset⟩ := row_set hB (by omega)
      have c1 := hce kk hkn
      have f1 := hfr kk
      have ⟨x0, x1⟩ := HX kk hkn
      have k0 : (0 : Int) ≤ (kk : Int) := Int.natCast_nonneg _
      have k1 : (kk : Int) < (k : Int) := by omega
      have hA2 := hA.kept (grown_set wr g kk (.int .i64 (X l kk + 1 + a3))) (by
        have := hap.kept
        cases hv : u11.ownBlock with
        | none => exact Or.inl rfl
        | some x => exact Or.inr (fun e => hap x hv (by simp [Value.ownBlock]; exact (Option.some.inj e).symm)))
      obtain ⟨A, ca, rfl, hca, hCA⟩ := row_C hA2
      have hCB := hset kk (X l kk + 1 + a3)
      have hb3 : Below w.heap.size w (wr.setCell ⟨g, kk, none⟩ (.int .i64 (X l kk + 1 + a3))) := (hb2.trans (hbel.mono hb2.size)).setCell (by simpa using Nat.le_trans hb2.size hg0) _
      have ⟨q1, q2, q3⟩ := more_pure (C := fun j => X l j + 1) hf0 h3 hn6 hkn (fun j hj => by have := HX j hj; omega)
      clear hA hB hap hfr hce hset hA2 hbel
      have Q1 := Lib.hid q1
      have Q2 := Lib.hid q2
      have Q3 := Lib.hid q3
      clear q1 q2 q3
      go_wp2_with fail
      refine (counts_tab _ f A k ca _ hCA hca).mono ?_
      rintro e w5 ⟨A2, c2, rfl, hc2, hC2, hb5⟩
      go_wp2_with fail
      refine (counts_tab w5 f _ k cb _ (Kd.C_below hCB hb5) hcb).mono ?_
      rintro e w6 ⟨A3, c3, rfl, hc3, hC3, hb6⟩
      have hC4 := Kd.C_below hC2 hb6
      rw [Q1.out] at hC4 hc2 ⊢
      rw [Q2.out] at hC3 hc3 ⊢
      obtain ⟨ad2, had2, y2⟩ := Kd.at_int hC4 (kk : Int) (by omega) (by omega)
      obtain ⟨ad3, had3, y3⟩ := Kd.at_int hC3 (kk : Int) (by omega) (by omega)
      rw [Int.toNat_natCast] at y2 y3
      subst had2 had3
      have r2 : ∀ l : List Int, rd l (kk : Int) = X l kk := fun _ => rfl
      rw [r2] at y2 y3
      clear r2
      generalize X (cntN f k (fun j => X l j + 1)) kk = v2 at y2 Q3
      generalize X (cntN f k (upd (fun j => X l j + 1) kk (X l kk + 1 + a3))) kk = v3 at y3 Q3
      have hle := Q3.out
      go_wp2_with fail
      repeat (go_quiet (fail))
      go_wp2
      go_ret
      exact ⟨rfl, below_drewN (hb3.trans ((hb5.mono hb3.size).trans (hb6.mono (Nat.le_trans hb3.size hb5.size)))) _⟩

theorem more_walk (a0 a2 a3 : Int) (P : Option Addr) (c : Nat) (l : List Int) (w : World) (hl : Kd.C (Kd.int .u8) w P l.length l) (hw : ∀ x ∈ l, (Lit.int .u8 x).wf = true) (h0 : 0 ≤ a0 ∧ a0 ≤ 255) (h2 : 0 ≤ a2 ∧ a2 ≤ 255) (h3 : 0 ≤ a3 ∧ a3 ≤ 255) :
    Calls Try.prog 6 #[.int .u8 a0, .slice P l.length c, .int .u8 a2, .int .u8 a3] w fun e w' => e = .returned (.bool true) ∧ Below w.heap.size w w' := by
  by_cases hn : l.length < 1 ∨ 6 < l.length
  · exact more_out a0 a2 a3 P c l w hl hn
  · exact more_in a0 a2 a3 P c l w hl hw h0 h2 h3 (by omega) (by omega)
end Go.Proofs.Ytfghfmlhoelbkaa
