/-
  All accounts of the document's ledger together.
-/
import Derived.Test.YtomadecehklbmaaRefLedB
import Derived.Test.YtomadecehklbmaaWLast
import Derived.Test.YtomadecehklbmaaTwo
import Derived.Test.YtomadecehklbmaaWWords
namespace Go.Proofs.Ytomadecehklbmaa
open Go.RowKit Go.Proofs.YtomadecehklbmaaW.PrintWords Go.Proofs.YtomadecehklbmaaW.PrintLast
set_option linter.unusedSimpArgs false
set_option linter.unusedVariables false

def four4 (x : Nat) (a b c d : Int) (w : World) : Prop := w.cell? ⟨x, 0, none⟩ = some (.int .i64 a) ∧ w.cell? ⟨x, 1, none⟩ = some (.int .i64 b) ∧ w.cell? ⟨x, 2, none⟩ = some (.int .i64 c) ∧ w.cell? ⟨x, 3, none⟩ = some (.int .i64 d)
theorem far4 {x t : Nat} {a b c d : Int} {w : World} (h : ¬ x = t) (i : Nat) (v : Value) : four4 x a b c d w → four4 x a b c d (w.setCell ⟨t, i, none⟩ v) := by
  have e : ∀ j, (w.setCell ⟨t, i, none⟩ v).cell? ⟨x, j, none⟩ = w.cell? ⟨x, j, none⟩ := fun j => World.cell?_of_block (Below.heap_setCell w _ v x h)
  unfold four4
  rw [e, e, e, e]
  exact id
def accF (a : Acc) (j : Nat) : Value := .int .i64 (if j = 0 then a.own else if j = 1 then a.got else if j = 2 then a.idle else a.freed)

set_option maxHeartbeats 1600000 in
theorem rsum_any (w : World) (g n : Nat) (A : Nat → Acc) (m : Int) (h : RAt w g n A) (hn : n ≤ 64) (hm : Within A m) (h0 : 0 ≤ m) (hM : m ≤ 1000000) :
    Calls Try.prog 15 #[.pointer (some ⟨g, 0, none⟩)] w fun e w' => e = .returned (accV (sumA A n)) ∧ Below w.heap.size w w' := by
  obtain ⟨b, cap, hr, hcap, hrow⟩ := h
  have hc0 := hr.cell (i := 0) (by omega)
  have hgl := hr.lt
  have hbl := hrow.lt
  have HB := Lib.hid (sumA_bounds hm h0 hM)
  go_enter Try.func15, Try.ntmps15
  go_wp2
  go_loopw [4] (fun i wr => ∃ k : Nat, k ≤ n ∧ i = .int .i64 k ∧ wr.rowIs (w.heap.size + 1) 32 4 (accF (sumA A k)) ∧ Below (w.heap.size + 1) (w.alloc (.cells #[.int .i64 0, .int .i64 0, .int .i64 0, .int .i64 0] 32)) wr) (fun i _ => n - (intOf i).toNat)
  case atStart =>
    refine ⟨0, by omega, rfl, ?_, (Below.refl _ _).alloc (by simp) _⟩
    have := World.rowIs_alloc (w.alloc (.cells #[.int .i64 0, .int .i64 0, .int .i64 0, .int .i64 0] 32)) #[.int .i64 0, .int .i64 0, .int .i64 0, .int .i64 0] 32 (accF (sumA A 0)) (fun i hi => by
      have : i = 0 ∨ i = 1 ∨ i = 2 ∨ i = 3 := by simp at hi; omega
      rcases this with rfl | rfl | rfl | rfl <;> simp [accF, sumA, Acc.zero])
    simpa using this
  case round =>
    obtain ⟨k, hk, rfl, hrw, hbel⟩ := hrel
    have hz1 : w.heap.size + 1 < wr.heap.size := hrw.lt
    have e0 : wr.cell? ⟨g, 0, none⟩ = some (.slice (some ⟨b, 0, none⟩) n cap) := by
      have := hbel.cell (p := ⟨g, 0, none⟩) (by simp; omega)
      rw [this, World.cell?_alloc_past (hn := hgl), hc0]
    have hgw : g < wr.heap.size := by omega
    by_cases hlt : k < n
    · have s0 : wr.cell? ⟨w.heap.size + 1, 0, none⟩ = some (.int .i64 (sumA A k).own) := hrw.cell (i := 0) (by omega)
      have s1 : wr.cell? ⟨w.heap.size + 1, 1, none⟩ = some (.int .i64 (sumA A k).got) := hrw.cell (i := 1) (by omega)
      have s2 : wr.cell? ⟨w.heap.size + 1, 2, none⟩ = some (.int .i64 (sumA A k).idle) := hrw.cell (i := 2) (by omega)
      have s3 : wr.cell? ⟨w.heap.size + 1, 3, none⟩ = some (.int .i64 (sumA A k).freed) := hrw.cell (i := 3) (by omega)
      have f0 := hrw.frozen 0
      have f1 := hrw.frozen 1
      have f2 := hrw.frozen 2
      have f3 := hrw.frozen 3
      have hb0 : ∀ i, wr.cell? ⟨b, i, none⟩ = w.cell? ⟨b, i, none⟩ := fun i => by
        have := hbel.cell (p := ⟨b, i, none⟩) (by simp; omega)
        rw [this, World.cell?_alloc_past (hn := hbl)]
      have e1 : wr.cell? ⟨b, k * 4, none⟩ = some (.int .i64 (A k).own) := (hb0 _).trans (hrow.cell hlt (show 0 < 4 by omega))
      have e2 : wr.cell? ⟨b, k * 4 + 1, none⟩ = some (.int .i64 (A k).got) := (hb0 _).trans (hrow.cell hlt (show 1 < 4 by omega))
      have e3 : wr.cell? ⟨b, k * 4 + 2, none⟩ = some (.int .i64 (A k).idle) := (hb0 _).trans (hrow.cell hlt (show 2 < 4 by omega))
      have e4 : wr.cell? ⟨b, k * 4 + 3, none⟩ = some (.int .i64 (A k).freed) := (hb0 _).trans (hrow.cell hlt (show 3 < 4 by omega))
      clear hb0
      have hbw : b < wr.heap.size := by omega
      have ⟨p0, p1, p2, p3, p4, p5, p6, p7⟩ := HB.out k (by omega)
      have ⟨z0, z1, z2, z3, z4, z5, z6, z7⟩ := hm k
      have hx := hrw.alloc (.cells #[.int .i64 (A k).own, .int .i64 (A k).got, .int .i64 (A k).idle, .int .i64 (A k).freed] 32)
      have hbx := hbel.alloc (by omega) (.cells #[.int .i64 (A k).own, .int .i64 (A k).got, .int .i64 (A k).idle, .int .i64 (A k).freed] 32)
      have hsum : Hid (sumA A (k + 1) = ⟨(sumA A k).own + (A k).own, (sumA A k).got + (A k).got, (sumA A k).idle + (A k).idle, (sumA A k).freed + (A k).freed⟩) := Lib.hid rfl
      go_wp2
      obtain ⟨t, ht⟩ : ∃ t, t = w.heap.size + 1 := ⟨_, rfl⟩
      obtain ⟨x, hxx⟩ : ∃ x, x = wr.heap.size := ⟨_, rfl⟩
      obtain ⟨W, hW⟩ : ∃ W, W = wr.alloc (.cells #[.int .i64 (A k).own, .int .i64 (A k).got, .int .i64 (A k).idle, .int .i64 (A k).freed] 32) := ⟨_, rfl⟩
      have x0 : W.cell? ⟨x, 0, none⟩ = some (.int .i64 (A k).own) := by rw [hW, hxx]; simp
      have x1 : W.cell? ⟨x, 1, none⟩ = some (.int .i64 (A k).got) := by rw [hW, hxx]; simp
      have x2 : W.cell? ⟨x, 2, none⟩ = some (.int .i64 (A k).idle) := by rw [hW, hxx]; simp
      have x3 : W.cell? ⟨x, 3, none⟩ = some (.int .i64 (A k).freed) := by rw [hW, hxx]; simp
      have htx : ¬ t = x := by omega
      have hxt : ¬ x = t := by omega
      rw [← hW] at hx hbx ⊢
      rw [← ht] at hx hbx ⊢
      rw [← hxx]
      have y0 : W.cell? ⟨t, 0, none⟩ = some (.int .i64 (sumA A k).own) := hx.cell (i := 0) (by omega)
      have y1 : W.cell? ⟨t, 1, none⟩ = some (.int .i64 (sumA A k).got) := hx.cell (i := 1) (by omega)
      have y2 : W.cell? ⟨t, 2, none⟩ = some (.int .i64 (sumA A k).idle) := hx.cell (i := 2) (by omega)
      have y3 : W.cell? ⟨t, 3, none⟩ = some (.int .i64 (sumA A k).freed) := hx.cell (i := 3) (by omega)
      have g0 := hx.frozen 0
      have g1 := hx.frozen 1
      have g2 := hx.frozen 2
      have g3 := hx.frozen 3
      clear hW hxx e0 e1 e2 e3 e4 s0 s1 s2 s3 f0 f1 f2 f3 hrw hbel HB hm hc0 hr hrow
      generalize hS : sumA A k = s at *
      generalize hK : A k = c at *
      clear hS hK
      have HT := Lib.hid ht
      clear ht hcap hgl hbl hgw hbw hz1
      have hS0 : four4 t s.own s.got s.idle s.freed W.drew := ⟨y0, y1, y2, y3⟩
      have hT0 : four4 x c.own c.got c.idle c.freed W.drew := ⟨x0, x1, x2, x3⟩
      refine Two.start2 (n := 28) (S := four4 t s.own s.got s.idle s.freed) (T := four4 x c.own c.got c.idle c.freed) (ds := [21, 23, 25, 27]) #[false, false, false, false, false, false, false, false, false, false, false, false, false, false, false, false, false, false, false, false, false, false, false, false, false, false, false, false] (by kernel_rfl) rfl rfl ?_
      refine Two.takeP (i := 0) (N := some 23) (v := ?_) (a' := ?_) #[true, false, false, false, false, false, false, false, false, false, false, false, false, false, false, false, false, false, false, false, false, false, false, false, false, false, false, false] rfl rfl (by kernel_rfl) (fun _ _ _ h => h) (Or.inl ⟨by rfl, ?_⟩) ?_ ?_
      rotate_left
      · intro w'
        go_simp
        with_reducible rfl
      rotate_left
      · simp only [Act.put, List.setIfInBounds_toArray, List.set_cons_zero, List.set_cons_succ]
        rfl
      refine Two.takeS (i := 1) (N := some 24) (v := ?_) (a' := ?_) #[true, true, false, false, false, false, false, false, false, false, false, false, false, false, false, false, false, false, false, false, false, false, false, false, false, false, false, false] rfl rfl (by kernel_rfl) (fun _ _ _ h => h) (Or.inl ⟨by rfl, ?_⟩) hS0 ?_ ?_
      rotate_left
      · rintro w' ⟨s0_, s1_, s2_, s3_⟩
        go_simp
        with_reducible rfl
      rotate_left
      · simp only [Act.put, List.setIfInBounds_toArray, List.set_cons_zero, List.set_cons_succ]
        rfl
      refine Two.takeP (i := 2) (N := some 25) (v := ?_) (a' := ?_) #[true, true, true, false, false, false, false, false, false, false, false, false, false, false, false, false, false, false, false, false, false, false, false, false, false, false, false, false] rfl rfl (by kernel_rfl) (fun _ _ _ h => h) (Or.inl ⟨by rfl, ?_⟩) ?_ ?_
      rotate_left
      · intro w'
        go_simp
        with_reducible rfl
      rotate_left
      · simp only [Act.put, List.setIfInBounds_toArray, List.set_cons_zero, List.set_cons_succ]
        rfl
      refine Two.takeT (i := 3) (N := some 26) (v := ?_) (a' := ?_) #[true, true, true, true, false, false, false, false, false, false, false, false, false, false, false, false, false, false, false, false, false, false, false, false, false, false, false, false] rfl rfl (by kernel_rfl) (fun _ _ _ h => h) (Or.inl ⟨by rfl, ?_⟩) hT0 ?_ ?_
      rotate_left
      · rintro w' ⟨s0_, s1_, s2_, s3_⟩
        go_simp
        with_reducible rfl
      rotate_left
      · simp only [Act.put, List.setIfInBounds_toArray, List.set_cons_zero, List.set_cons_succ]
        rfl
      refine Two.takeP (i := 4) (N := some 27) (v := ?_) (a' := ?_) #[true, true, true, true, true, false, false, false, false, false, false, false, false, false, false, false, false, false, false, false, false, false, false, false, false, false, false, false] rfl rfl (by kernel_rfl) (fun _ _ _ h => h) (Or.inl ⟨by rfl, ?_⟩) ?_ ?_
      rotate_left
      · intro w'
        go_simp
        with_reducible rfl
      rotate_left
      · simp only [Act.put, List.setIfInBounds_toArray, List.set_cons_zero, List.set_cons_succ]
        rfl
      refine Two.takeP (i := 5) (N := some 28) (v := ?_) (a' := ?_) #[true, true, true, true, true, true, false, false, false, false, false, false, false, false, false, false, false, false, false, false, false, false, false, false, false, false, false, false] rfl rfl (by kernel_rfl) (fun _ _ _ h => h) (Or.inl ⟨by rfl, ?_⟩) ?_ ?_
      rotate_left
      · intro w'
        go_simp
        with_reducible rfl
      rotate_left
      · simp only [Act.put, List.setIfInBounds_toArray, List.set_cons_zero, List.set_cons_succ]
        rfl
      refine Two.takeS (i := 6) (N := some 29) (v := ?_) (a' := ?_) #[true, true, true, true, true, true, true, false, false, false, false, false, false, false, false, false, false, false, false, false, false, false, false, false, false, false, false, false] rfl rfl (by kernel_rfl) (fun _ _ _ h => h) (Or.inl ⟨by rfl, ?_⟩) hS0 ?_ ?_
      rotate_left
      · rintro w' ⟨s0_, s1_, s2_, s3_⟩
        go_simp
        with_reducible rfl
      rotate_left
      · simp only [Act.put, List.setIfInBounds_toArray, List.set_cons_zero, List.set_cons_succ]
        rfl
      refine Two.takeP (i := 7) (N := some 30) (v := ?_) (a' := ?_) #[true, true, true, true, true, true, true, true, false, false, false, false, false, false, false, false, false, false, false, false, false, false, false, false, false, false, false, false] rfl rfl (by kernel_rfl) (fun _ _ _ h => h) (Or.inl ⟨by rfl, ?_⟩) ?_ ?_
      rotate_left
      · intro w'
        go_simp
        with_reducible rfl
      rotate_left
      · simp only [Act.put, List.setIfInBounds_toArray, List.set_cons_zero, List.set_cons_succ]
        rfl
      refine Two.takeT (i := 8) (N := some 31) (v := ?_) (a' := ?_) #[true, true, true, true, true, true, true, true, true, false, false, false, false, false, false, false, false, false, false, false, false, false, false, false, false, false, false, false] rfl rfl (by kernel_rfl) (fun _ _ _ h => h) (Or.inl ⟨by rfl, ?_⟩) hT0 ?_ ?_
      rotate_left
      · rintro w' ⟨s0_, s1_, s2_, s3_⟩
        go_simp
        with_reducible rfl
      rotate_left
      · simp only [Act.put, List.setIfInBounds_toArray, List.set_cons_zero, List.set_cons_succ]
        rfl
      refine Two.takeP (i := 9) (N := some 32) (v := ?_) (a' := ?_) #[true, true, true, true, true, true, true, true, true, true, false, false, false, false, false, false, false, false, false, false, false, false, false, false, false, false, false, false] rfl rfl (by kernel_rfl) (fun _ _ _ h => h) (Or.inl ⟨by rfl, ?_⟩) ?_ ?_
      rotate_left
      · intro w'
        go_simp
        with_reducible rfl
      rotate_left
      · simp only [Act.put, List.setIfInBounds_toArray, List.set_cons_zero, List.set_cons_succ]
        rfl
      refine Two.takeP (i := 10) (N := some 33) (v := ?_) (a' := ?_) #[true, true, true, true, true, true, true, true, true, true, true, false, false, false, false, false, false, false, false, false, false, false, false, false, false, false, false, false] rfl rfl (by kernel_rfl) (fun _ _ _ h => h) (Or.inl ⟨by rfl, ?_⟩) ?_ ?_
      rotate_left
      · intro w'
        go_simp
        with_reducible rfl
      rotate_left
      · simp only [Act.put, List.setIfInBounds_toArray, List.set_cons_zero, List.set_cons_succ]
        rfl
      refine Two.takeS (i := 11) (N := some 34) (v := ?_) (a' := ?_) #[true, true, true, true, true, true, true, true, true, true, true, true, false, false, false, false, false, false, false, false, false, false, false, false, false, false, false, false] rfl rfl (by kernel_rfl) (fun _ _ _ h => h) (Or.inl ⟨by rfl, ?_⟩) hS0 ?_ ?_
      rotate_left
      · rintro w' ⟨s0_, s1_, s2_, s3_⟩
        go_simp
        with_reducible rfl
      rotate_left
      · simp only [Act.put, List.setIfInBounds_toArray, List.set_cons_zero, List.set_cons_succ]
        rfl
      refine Two.takeP (i := 12) (N := some 35) (v := ?_) (a' := ?_) #[true, true, true, true, true, true, true, true, true, true, true, true, true, false, false, false, false, false, false, false, false, false, false, false, false, false, false, false] rfl rfl (by kernel_rfl) (fun _ _ _ h => h) (Or.inl ⟨by rfl, ?_⟩) ?_ ?_
      rotate_left
      · intro w'
        go_simp
        with_reducible rfl
      rotate_left
      · simp only [Act.put, List.setIfInBounds_toArray, List.set_cons_zero, List.set_cons_succ]
        rfl
      refine Two.takeT (i := 13) (N := some 36) (v := ?_) (a' := ?_) #[true, true, true, true, true, true, true, true, true, true, true, true, true, true, false, false, false, false, false, false, false, false, false, false, false, false, false, false] rfl rfl (by kernel_rfl) (fun _ _ _ h => h) (Or.inl ⟨by rfl, ?_⟩) hT0 ?_ ?_
      rotate_left
      · rintro w' ⟨s0_, s1_, s2_, s3_⟩
        go_simp
        with_reducible rfl
      rotate_left
      · simp only [Act.put, List.setIfInBounds_toArray, List.set_cons_zero, List.set_cons_succ]
        rfl
      refine Two.takeP (i := 14) (N := some 37) (v := ?_) (a' := ?_) #[true, true, true, true, true, true, true, true, true, true, true, true, true, true, true, false, false, false, false, false, false, false, false, false, false, false, false, false] rfl rfl (by kernel_rfl) (fun _ _ _ h => h) (Or.inl ⟨by rfl, ?_⟩) ?_ ?_
      rotate_left
      · intro w'
        go_simp
        with_reducible rfl
      rotate_left
      · simp only [Act.put, List.setIfInBounds_toArray, List.set_cons_zero, List.set_cons_succ]
        rfl
      refine Two.takeP (i := 15) (N := some 38) (v := ?_) (a' := ?_) #[true, true, true, true, true, true, true, true, true, true, true, true, true, true, true, true, false, false, false, false, false, false, false, false, false, false, false, false] rfl rfl (by kernel_rfl) (fun _ _ _ h => h) (Or.inl ⟨by rfl, ?_⟩) ?_ ?_
      rotate_left
      · intro w'
        go_simp
        with_reducible rfl
      rotate_left
      · simp only [Act.put, List.setIfInBounds_toArray, List.set_cons_zero, List.set_cons_succ]
        rfl
      refine Two.takeS (i := 16) (N := some 39) (v := ?_) (a' := ?_) #[true, true, true, true, true, true, true, true, true, true, true, true, true, true, true, true, true, false, false, false, false, false, false, false, false, false, false, false] rfl rfl (by kernel_rfl) (fun _ _ _ h => h) (Or.inl ⟨by rfl, ?_⟩) hS0 ?_ ?_
      rotate_left
      · rintro w' ⟨s0_, s1_, s2_, s3_⟩
        go_simp
        with_reducible rfl
      rotate_left
      · simp only [Act.put, List.setIfInBounds_toArray, List.set_cons_zero, List.set_cons_succ]
        rfl
      refine Two.takeP (i := 17) (N := some 40) (v := ?_) (a' := ?_) #[true, true, true, true, true, true, true, true, true, true, true, true, true, true, true, true, true, true, false, false, false, false, false, false, false, false, false, false] rfl rfl (by kernel_rfl) (fun _ _ _ h => h) (Or.inl ⟨by rfl, ?_⟩) ?_ ?_
      rotate_left
      · intro w'
        go_simp
        with_reducible rfl
      rotate_left
      · simp only [Act.put, List.setIfInBounds_toArray, List.set_cons_zero, List.set_cons_succ]
        rfl
      refine Two.takeT (i := 18) (N := some 41) (v := ?_) (a' := ?_) #[true, true, true, true, true, true, true, true, true, true, true, true, true, true, true, true, true, true, true, false, false, false, false, false, false, false, false, false] rfl rfl (by kernel_rfl) (fun _ _ _ h => h) (Or.inl ⟨by rfl, ?_⟩) hT0 ?_ ?_
      rotate_left
      · rintro w' ⟨s0_, s1_, s2_, s3_⟩
        go_simp
        with_reducible rfl
      rotate_left
      · simp only [Act.put, List.setIfInBounds_toArray, List.set_cons_zero, List.set_cons_succ]
        rfl
      refine Two.takeP (i := 19) (N := some 42) (v := ?_) (a' := ?_) #[true, true, true, true, true, true, true, true, true, true, true, true, true, true, true, true, true, true, true, true, false, false, false, false, false, false, false, false] rfl rfl (by kernel_rfl) (fun _ _ _ h => h) (Or.inl ⟨by rfl, ?_⟩) ?_ ?_
      rotate_left
      · intro w'
        go_simp
        with_reducible rfl
      rotate_left
      · simp only [Act.put, List.setIfInBounds_toArray, List.set_cons_zero, List.set_cons_succ]
        rfl
      refine Two.takeP (i := 20) (N := some 43) (v := ?_) (a' := ?_) #[true, true, true, true, true, true, true, true, true, true, true, true, true, true, true, true, true, true, true, true, true, false, false, false, false, false, false, false] rfl rfl (by kernel_rfl) (fun _ _ _ h => h) (Or.inl ⟨by rfl, ?_⟩) ?_ ?_
      rotate_left
      · intro w'
        go_simp
        with_reducible rfl
      rotate_left
      · simp only [Act.put, List.setIfInBounds_toArray, List.set_cons_zero, List.set_cons_succ]
        rfl
      refine Two.oneD (i := 21) (N := none) #[true, true, true, true, true, true, true, true, true, true, true, true, true, true, true, true, true, true, true, true, true, true, false, false, false, false, false, false] rfl rfl (by kernel_rfl) (by decide) (fun K hK => ?_)
      refine skip_ (w1 := ?_) (by rfl) rfl ?_ ?_
      rotate_left
      · go_simp
        rfl
      refine hK.out _ _ (far4 hxt _ _) ?_
      clear hK K
      refine Two.takeP (i := 22) (N := some 44) (v := ?_) (a' := ?_) #[true, true, true, true, true, true, true, true, true, true, true, true, true, true, true, true, true, true, true, true, true, true, true, false, false, false, false, false] rfl rfl (by kernel_rfl) (fun _ _ _ h => h) (Or.inl ⟨by rfl, ?_⟩) ?_ ?_
      rotate_left
      · intro w'
        go_simp
        with_reducible rfl
      rotate_left
      · simp only [Act.put, List.setIfInBounds_toArray, List.set_cons_zero, List.set_cons_succ]
        rfl
      refine Two.oneD (i := 23) (N := none) #[true, true, true, true, true, true, true, true, true, true, true, true, true, true, true, true, true, true, true, true, true, true, true, true, false, false, false, false] rfl rfl (by kernel_rfl) (by decide) (fun K hK => ?_)
      refine skip_ (w1 := ?_) (by rfl) rfl ?_ ?_
      rotate_left
      · go_simp
        rfl
      refine hK.out _ _ (far4 hxt _ _) ?_
      clear hK K
      refine Two.takeP (i := 24) (N := some 45) (v := ?_) (a' := ?_) #[true, true, true, true, true, true, true, true, true, true, true, true, true, true, true, true, true, true, true, true, true, true, true, true, true, false, false, false] rfl rfl (by kernel_rfl) (fun _ _ _ h => h) (Or.inl ⟨by rfl, ?_⟩) ?_ ?_
      rotate_left
      · intro w'
        go_simp
        with_reducible rfl
      rotate_left
      · simp only [Act.put, List.setIfInBounds_toArray, List.set_cons_zero, List.set_cons_succ]
        rfl
      refine Two.oneD (i := 25) (N := none) #[true, true, true, true, true, true, true, true, true, true, true, true, true, true, true, true, true, true, true, true, true, true, true, true, true, true, false, false] rfl rfl (by kernel_rfl) (by decide) (fun K hK => ?_)
      refine skip_ (w1 := ?_) (by rfl) rfl ?_ ?_
      rotate_left
      · go_simp
        rfl
      refine hK.out _ _ (far4 hxt _ _) ?_
      clear hK K
      refine Two.takeP (i := 26) (N := some 46) (v := ?_) (a' := ?_) #[true, true, true, true, true, true, true, true, true, true, true, true, true, true, true, true, true, true, true, true, true, true, true, true, true, true, true, false] rfl rfl (by kernel_rfl) (fun _ _ _ h => h) (Or.inl ⟨by rfl, ?_⟩) ?_ ?_
      rotate_left
      · intro w'
        go_simp
        with_reducible rfl
      rotate_left
      · simp only [Act.put, List.setIfInBounds_toArray, List.set_cons_zero, List.set_cons_succ]
        rfl
      refine Two.oneD (i := 27) (N := none) #[true, true, true, true, true, true, true, true, true, true, true, true, true, true, true, true, true, true, true, true, true, true, true, true, true, true, true, true] rfl rfl (by kernel_rfl) (by decide) (fun K hK => ?_)
      refine skip_ (w1 := ?_) (by rfl) rfl ?_ ?_
      rotate_left
      · go_simp
        rfl
      refine hK.out _ _ (far4 hxt _ _) ?_
      clear hK K
      refine Two.done2 (by kernel_rfl) ?_
      obtain rfl := HT.out
      go_wp2
      go_roundw
      case rel =>
        refine ⟨k + 1, by omega, by go_num, ?_, ?_⟩
        · rw [hsum.out]
          refine ((((hx.set 0 _).set 1 _).set 2 _).set 3 _).congr fun j hj => ?_
          rcases four hj with rfl | rfl | rfl | rfl <;> simp [accF]
        · exact ((((hbx.setCell (by simp) _).setCell (by simp) _).setCell (by simp) _).setCell (by simp) _).drew
      case measure => simp [intOf]; omega
    · obtain rfl : k = n := by omega
      obtain ⟨wc, wf⟩ := bcellB hbel
      have hz0 : w.heap.size < wr.heap.size := by omega
      have s0 : wr.cell? ⟨w.heap.size + 1, 0, none⟩ = some (.int .i64 (sumA A k).own) := hrw.cell (i := 0) (by omega)
      have s1 : wr.cell? ⟨w.heap.size + 1, 1, none⟩ = some (.int .i64 (sumA A k).got) := hrw.cell (i := 1) (by omega)
      have s2 : wr.cell? ⟨w.heap.size + 1, 2, none⟩ = some (.int .i64 (sumA A k).idle) := hrw.cell (i := 2) (by omega)
      have s3 : wr.cell? ⟨w.heap.size + 1, 3, none⟩ = some (.int .i64 (sumA A k).freed) := hrw.cell (i := 3) (by omega)
      go_wp2
      refine bodyPost_ret (v := accV (sumA A k)) (by simp [results, Try.results15, go_sem, wc, wf, hz0]) rfl ⟨rfl, ?_⟩
      have b0 := ((Below.refl w.heap.size w).alloc (Nat.le_refl _) (.cells #[.int .i64 0, .int .i64 0, .int .i64 0, .int .i64 0] 32)).trans (hbel.mono (by omega))
      exact (((b0.setCell (by simp) _).setCell (by simp) _).setCell (by simp) _).setCell (by simp) _

end Go.Proofs.Ytomadecehklbmaa
