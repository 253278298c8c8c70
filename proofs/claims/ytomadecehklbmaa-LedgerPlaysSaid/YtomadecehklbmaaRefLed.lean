/-
  The document's ledger in memory, and what its methods do, each by a contract.
-/
import Derived.Test.YtomadecehklbmaaApartP
namespace Go.Proofs.Ytomadecehklbmaa
open Go.RowKit
set_option linter.unusedSimpArgs false
set_option linter.unusedVariables false

/-- A row of n accounts from the head of block b on; what stands behind them is open. -/
def RRow (w : World) (b n : Nat) (A : Nat → Acc) : Prop := ∃ (N : Nat) (f : Nat → Value), w.rowIs b 32 N f ∧ n * 4 ≤ N ∧ ∀ j, j < n * 4 → f j = accCell A j

/-- The document's ledger: the struct in block g, its row in block b. -/
def RAtB (w : World) (g b n : Nat) (A : Nat → Acc) : Prop := ∃ cap, w.rowIs g 45 1 (fun _ => .slice (some ⟨b, 0, none⟩) n cap) ∧ n ≤ cap ∧ RRow w b n A
def RAt (w : World) (g n : Nat) (A : Nat → Acc) : Prop := ∃ b, RAtB w g b n A

theorem RRow.cell {w : World} {b n : Nat} {A : Nat → Acc} (h : RRow w b n A) {k i : Nat} (hk : k < n) (hi : i < 4) : w.cell? ⟨b, k * 4 + i, none⟩ = some (.int .i64 (if i = 0 then (A k).own else if i = 1 then (A k).got else if i = 2 then (A k).idle else (A k).freed)) := by
  obtain ⟨N, f, hr, hN, hf⟩ := h
  have h1 : k * 4 + i < n * 4 := by omega
  rw [hr.cell (i := k * 4 + i) (by omega), hf _ h1, accCell_at A k i hi]
theorem RRow.frozen {w : World} {b n : Nat} {A : Nat → Acc} (h : RRow w b n A) (i : Nat) : w.frozen? ⟨b, i, none⟩ = false := by
  obtain ⟨N, f, hr, _⟩ := h
  exact hr.frozen i
theorem RRow.lt {w : World} {b n : Nat} {A : Nat → Acc} (h : RRow w b n A) : b < w.heap.size := by
  obtain ⟨N, f, hr, _⟩ := h
  exact hr.lt
theorem RRow.of_block {w w' : World} {b n : Nat} {A : Nat → Acc} (h : RRow w b n A) (e : w'.heap[b]? = w.heap[b]?) : RRow w' b n A := by
  obtain ⟨N, f, hr, hN⟩ := h
  exact ⟨N, f, hr.of_block e, hN⟩
theorem RRow.set {w : World} {b n : Nat} {A : Nat → Acc} (h : RRow w b n A) (k i : Nat) (hi : i < 4) (a : Acc) (v : Int)
    (ha : ∀ j, j < 4 → (if j = i then v else if j = 0 then (A k).own else if j = 1 then (A k).got else if j = 2 then (A k).idle else (A k).freed) = (if j = 0 then a.own else if j = 1 then a.got else if j = 2 then a.idle else a.freed)) :
    RRow (w.setCell ⟨b, k * 4 + i, none⟩ (.int .i64 v)) b n (put A k a) := by
  obtain ⟨N, f, hr, hN, hf⟩ := h
  refine ⟨N, _, hr.set _ _, hN, fun j hj => ?_⟩
  have h0 := ha (j % 4) (by omega)
  by_cases hjk : j / 4 = k
  · have e : j = k * 4 + j % 4 := by omega
    by_cases hji : j = k * 4 + i
    · rw [if_pos hji]
      have hi' : j % 4 = i := by omega
      rw [hi', if_pos rfl] at h0
      unfold accCell put
      rw [if_pos hjk, hi', h0]
    · have hi' : ¬ j % 4 = i := by omega
      rw [if_neg hji, hf j hj]
      rw [if_neg hi'] at h0
      unfold accCell put
      rw [if_pos hjk, hjk, h0]
  · rw [if_neg (by omega), hf j hj]
    unfold accCell put
    rw [if_neg hjk]

theorem RRow.ne_ {w : World} {b n b' n' : Nat} {T : TypeId} {A : Nat → Acc} {f' : Nat → Value} (h : RRow w b n A) (h' : w.rowIs b' T n' f') (hT : 32 ≠ T) : b ≠ b' := by
  obtain ⟨N, f, hr, _⟩ := h
  exact rowIs_ne hr h' hT

theorem is_any (w : World) (g n : Nat) (b : Nat) (d : Int) (A : Nat → Acc) (h : RAtB w g b n A) (hn : n ≤ 64) :
    Calls Try.prog 17 #[.pointer (some ⟨g, 0, none⟩), .int .i64 d] w fun e w' => e = .returned (.bool (decide (0 ≤ d) && decide (d < n))) ∧ w = w' := by
  obtain ⟨cap, hr, hc, hrow⟩ := h
  have hc0 := hr.cell (i := 0) (by omega)
  by_cases h0 : 0 ≤ d
  · by_cases h1 : d < n
    · go_enter Try.func17, Try.ntmps17
      go_wp2
      go_ret
      exact ⟨ret_bool (by simp [h0, h1]), rfl⟩
    · go_enter Try.func17, Try.ntmps17
      go_wp2
      go_ret
      exact ⟨ret_bool (by simp; omega), rfl⟩
  · go_enter Try.func17, Try.ntmps17
    go_wp2
    go_ret
    exact ⟨ret_bool (by simp; omega), rfl⟩

theorem acc_info : (Try.prog.info? 32).map (fun i => (i.zero, i.size, i.bytes)) = some (some (.agg #[.int .i64 0, .int .i64 0, .int .i64 0, .int .i64 0]), 4, 32) := by kernel_rfl

def accCells (A : Nat → Acc) (n : Nat) : List Value := (List.range (n * 4)).map (accCell A)

theorem accCells_get {A : Nat → Acc} {n j : Nat} (h : j < n * 4) : (accCells A n)[j]? = some (accCell A j) := by
  unfold accCells; simp [h]

theorem accCells_from {w : World} {b n : Nat} {A : Nat → Acc} (h : RRow w b n A) : ∀ j u, (accCells A n)[j]? = some u → w.cell? ((⟨b, 0, none⟩ : Addr).add j) = some u := by
  intro j u hu
  have hj : j < n * 4 := by
    rcases Nat.lt_or_ge j (n * 4) with h | h
    · exact h
    · rw [List.getElem?_eq_none (by simpa [accCells] using h)] at hu; cases hu
  rw [accCells_get hj] at hu
  injection hu with hu
  obtain ⟨N, f, hr, hN, hf⟩ := h
  rw [Go.WideShapes.add_plain, Nat.zero_add, hr.cell (i := j) (by omega), hf j hj, hu]

theorem accCells_one (A : Nat → Acc) (n : Nat) : ∀ u ∈ accCells A n, u.oneCell' = true := by
  intro u hu
  simp only [accCells, List.mem_map] at hu
  obtain ⟨j, _, rfl⟩ := hu
  rfl

/-- The row that an append to nil has made. -/
theorem rrow_own {w : World} {B n : Nat} {v : Value} {A : Nat → Acc} (h : w.ownsRow B 32 4 v n (accCells A n)) (h0 : 0 < n) : ∃ b cap, v = .slice (some ⟨b, 0, none⟩) n cap ∧ B ≤ b ∧ n ≤ cap ∧ RRow w b n A := by
  rcases h.2 with ⟨_, hn⟩ | ⟨b, cap, cur, rfl, hb, hg, hnc, _, hs, htake⟩
  · omega
  · refine ⟨b, cap, rfl, hb, hnc, cap * 4, fun j => cur[j]?.getD (.int .i64 0), ⟨cur, hg, hs, fun i hi => ?_⟩, Nat.mul_le_mul_right 4 hnc, fun j hj => ?_⟩
    · simp [Array.getElem?_eq_getElem (show i < cur.size by omega)]
    · have e := accCells_get (A := A) hj
      rw [← htake, List.getElem?_take, if_pos hj, Array.getElem?_toList] at e
      simp [e]

theorem put_put (A : Nat → Acc) (k : Nat) (a b : Acc) : put (put A k a) k b = put A k b := by
  funext i; unfold put; split <;> rfl
theorem put_comm (A : Nat → Acc) {k j : Nat} (h : k ≠ j) (a b : Acc) : put (put A k a) j b = put (put A j b) k a := by
  funext i; unfold put; split <;> split <;> first | rfl | omega

theorem four {j : Nat} (h : j < 4) : j = 0 ∨ j = 1 ∨ j = 2 ∨ j = 3 := by omega
theorem RRow.own1 {w : World} {b n : Nat} {A : Nat → Acc} (h : RRow w b n A) (k : Nat) : RRow (w.setCell ⟨b, k * 4, none⟩ (.int .i64 ((A k).own + 1))) b n (put A k ((A k).plus 1 0 0 0)) := by
  have := h.set k 0 (by omega) ((A k).plus 1 0 0 0) ((A k).own + 1) (fun j hj => by rcases four hj with rfl | rfl | rfl | rfl <;> simp [Acc.plus])
  simpa using this
theorem RRow.got1 {w : World} {b n : Nat} {A : Nat → Acc} (h : RRow w b n A) (k : Nat) : RRow (w.setCell ⟨b, k * 4 + 1, none⟩ (.int .i64 ((A k).got + 1))) b n (put A k ((A k).plus 0 1 0 0)) :=
  h.set k 1 (by omega) ((A k).plus 0 1 0 0) ((A k).got + 1) (fun j hj => by rcases four hj with rfl | rfl | rfl | rfl <;> simp [Acc.plus])
theorem RRow.idle1 {w : World} {b n : Nat} {A : Nat → Acc} (h : RRow w b n A) (k : Nat) : RRow (w.setCell ⟨b, k * 4 + 2, none⟩ (.int .i64 ((A k).idle + 1))) b n (put A k ((A k).plus 0 0 1 0)) :=
  h.set k 2 (by omega) ((A k).plus 0 0 1 0) ((A k).idle + 1) (fun j hj => by rcases four hj with rfl | rfl | rfl | rfl <;> simp [Acc.plus])
theorem RRow.freed1 {w : World} {b n : Nat} {A : Nat → Acc} (h : RRow w b n A) (k : Nat) : RRow (w.setCell ⟨b, k * 4 + 3, none⟩ (.int .i64 ((A k).freed + 1))) b n (put A k ((A k).plus 0 0 0 1)) :=
  h.set k 3 (by omega) ((A k).plus 0 0 0 1) ((A k).freed + 1) (fun j hj => by rcases four hj with rfl | rfl | rfl | rfl <;> simp [Acc.plus])
theorem RRow.far {w : World} {b n : Nat} {A : Nat → Acc} (h : RRow w b n A) {g : Nat} (hg : ¬ b = g) (i : Nat) (v : Value) : RRow (w.setCell ⟨g, i, none⟩ v) b n A := by
  obtain ⟨N, f, hr, hN⟩ := h
  exact ⟨N, f, hr.setOther (by simpa using hg) _, hN⟩

section
variable {w : World} {g b n : Nat} {A : Nat → Acc}
theorem RAtB.start {v : Value} {cap : Nat} (r : w.rowIs g 45 1 (fun _ => v)) (rr : RRow w b n A) (hc : n ≤ cap) (hb : ¬ b = g) : RAtB (w.setCell ⟨g, 0, none⟩ (.slice (some ⟨b, 0, none⟩) n cap)) g b n A :=
  ⟨cap, (r.set 0 _).congr (fun i hi => by have : i = 0 := by omega
                                          subst this; rfl), hc, rr.far hb _ _⟩
theorem RAtB.own1 (h : RAtB w g b n A) (hb : ¬ b = g) (k : Nat) {x : Int} (e : (A k).own = x) : RAtB (w.setCell ⟨b, k * 4, none⟩ (.int .i64 (x + 1))) g b n (put A k ((A k).plus 1 0 0 0)) := by
  subst e; obtain ⟨cap, r, hc, rr⟩ := h; exact ⟨cap, r.setOther (fun e => hb e.symm) _, hc, rr.own1 k⟩
theorem RAtB.got1 (h : RAtB w g b n A) (hb : ¬ b = g) (k : Nat) {x : Int} (e : (A k).got = x) : RAtB (w.setCell ⟨b, k * 4 + 1, none⟩ (.int .i64 (x + 1))) g b n (put A k ((A k).plus 0 1 0 0)) := by
  subst e; obtain ⟨cap, r, hc, rr⟩ := h; exact ⟨cap, r.setOther (fun e => hb e.symm) _, hc, rr.got1 k⟩
theorem RAtB.idle1 (h : RAtB w g b n A) (hb : ¬ b = g) (k : Nat) {x : Int} (e : (A k).idle = x) : RAtB (w.setCell ⟨b, k * 4 + 2, none⟩ (.int .i64 (x + 1))) g b n (put A k ((A k).plus 0 0 1 0)) := by
  subst e; obtain ⟨cap, r, hc, rr⟩ := h; exact ⟨cap, r.setOther (fun e => hb e.symm) _, hc, rr.idle1 k⟩
theorem RAtB.freed1 (h : RAtB w g b n A) (hb : ¬ b = g) (k : Nat) {x : Int} (e : (A k).freed = x) : RAtB (w.setCell ⟨b, k * 4 + 3, none⟩ (.int .i64 (x + 1))) g b n (put A k ((A k).plus 0 0 0 1)) := by
  subst e; obtain ⟨cap, r, hc, rr⟩ := h; exact ⟨cap, r.setOther (fun e => hb e.symm) _, hc, rr.freed1 k⟩
theorem grown_row {w w' : World} {g b : Nat} (h : w.grownBy w' (some g)) (hb : w.heap.size ≤ b) (i : Nat) (v : Value) : w.grownBy (w'.setCell ⟨b, i, none⟩ v) (some g) :=
  ⟨h.os, h.tape, h.output, by simpa using h.size, fun k hk hne => (Below.heap_setCell w' _ v k (by simp; omega)).trans (h.block k hk hne)⟩
theorem grown_head {w w' : World} {g : Nat} (h : w.grownBy w' none) (i : Nat) (v : Value) : w.grownBy (w'.setCell ⟨g, i, none⟩ v) (some g) :=
  ⟨h.os, h.tape, h.output, by simpa using h.size, fun k hk hne => (Below.heap_setCell w' _ v k (fun e => hne (by rw [e]))).trans (h.block k hk (by simp))⟩
end

theorem put_freed (A : Nat → Acc) (k j : Nat) (x y u : Int) : (put A k ((A k).plus x y u 0) j).freed = (A j).freed := by
  unfold put; split
  · rename_i h; subst h; simp [Acc.plus]
  · rfl
theorem put_got (A : Nat → Acc) (k j : Nat) (x u v : Int) : (put A k ((A k).plus x 0 u v) j).got = (A j).got := by
  unfold put; split
  · rename_i h; subst h; simp [Acc.plus]
  · rfl

theorem addA_in (A : Nat → Acc) {n k : Nat} (x y u v : Int) (h : k < n) : addA A n (k : Int) x y u v = put A k ((A k).plus x y u v) := by
  unfold addA; rw [if_pos (by omega), Int.toNat_natCast]
theorem addA_out (A : Nat → Acc) {n : Nat} {d : Int} (x y u v : Int) (h : ¬ (0 ≤ d ∧ d < n)) : addA A n d x y u v = A := by
  unfold addA; rw [if_neg h]
theorem plus_at (A : Nat → Acc) (k j : Nat) (x y u v : Int) (a : Acc) (h : k ≠ j) : (put A k a) j = A j := by unfold put; rw [if_neg (by omega)]

theorem rcount_own (w : World) (g b n cap k : Nat) (f : Int) (A : Nat → Acc) (m : Int) (hr : w.rowIs g 45 1 (fun _ => .slice (some ⟨b, 0, none⟩) n cap)) (hc : n ≤ cap) (hrow : RRow w b n A) (hn : n ≤ 64) (hk : k < n) (hm : Within A m) (hM : m ≤ 1000000) (hf : ¬ (0 ≤ f ∧ f < n)) :
    Calls Try.prog 10 #[.pointer (some ⟨g, 0, none⟩), .int .i64 (k : Int), .int .i64 f, .int .i64 (k : Int)] w fun e w' => e = .returned (.tuple #[]) ∧ RAt w' g n (cntA A n k f k) ∧ w.grownBy w' (some g) := by
  obtain ⟨i0, hi, hz0, hz1, hz2⟩ := info_parts acc_info
  have hlen : (accCells A n).length = n * 4 := by simp [accCells]
  have hc0 := hr.cell (i := 0) (by omega)
  have hf0 := hr.frozen 0
  have hat : RAtB w g b n A := ⟨cap, hr, hc, hrow⟩
  have hd1 : decide (0 ≤ (k : Int)) = true := by simp
  have hd2 : decide ((k : Int) < (n : Int)) = true := by simp; omega
  have hgl := hr.lt
  have ⟨z0, z1, z2, z3, z4, z5, z6, z7⟩ := hm k
  have hd3 : (decide (0 ≤ f) && decide (f < n)) = false := by simp; omega
  have HE : Hid (cntA A n k f k = put A k ((A k).plus 1 0 0 0)) := by unfold cntA; rw [if_pos ⟨by omega, by omega⟩, if_pos rfl, addA_in A _ _ _ _ hk, addA_out _ _ _ _ _ hf]; exact Lib.hid rfl
  go_enter Try.func10, Try.ntmps10
  go_wp2_with (first | (go_at_call 17; refine (is_any _ g n _ _ _ (by assumption) hn).mono ?_; rintro e w' ⟨rfl, rfl⟩) | (at_builtin; refine wpList_append_own _ rfl _ _ 43 rfl w.heap.size 32 i0 _ 4 32 Try.underlying43 hi hz0 hz1 hz2 rfl (by decide) (.slice none 0 0) 0 [] rfl (World.ownsRow_nil _ _ _ _) ⟨b, 0, none⟩ n cap (accCells A n) rfl hlen (accCells_from hrow) (accCells_one A n) (by unfold maxLen; omega) (by omega) (Nat.le_refl _) ?_; intro v1 w1 hown1 hg1 _; rw [Nat.zero_add, List.nil_append] at hown1; obtain ⟨b1, cap1, rfl, hb1, hc1, rr1⟩ := rrow_own hown1 (by omega); have r1 := hr.of_block (hg1.block g hgl (fun h => by cases h)); have q1 := r1.cell (i := 0) (by omega); have q2 := r1.frozen 0; have q3 : ¬ b1 = g := (by omega); have q4 : ¬ g = b1 := (by omega); have q5 := rr1.frozen; have s0 : RAtB (w1.setCell ⟨g, 0, none⟩ (.slice (some ⟨b1, 0, none⟩) n cap1)) g b1 n A := RAtB.start r1 rr1 hc1 q3; have q6 : w1.cell? ⟨b1, k * 4, none⟩ = some (.int .i64 (A k).own) := rr1.cell (by omega) (show 0 < 4 by omega); have s1 := s0.own1 q3 k (rfl)))
  go_end0
  exact ⟨rfl, by rw [HE.out]; exact ⟨b1, s1⟩, grown_row (grown_head hg1 _ _) hb1 _ _⟩

theorem rcount_own_f (w : World) (g b n cap k j : Nat) (A : Nat → Acc) (m : Int) (hr : w.rowIs g 45 1 (fun _ => .slice (some ⟨b, 0, none⟩) n cap)) (hc : n ≤ cap) (hrow : RRow w b n A) (hn : n ≤ 64) (hk : k < n) (hm : Within A m) (hM : m ≤ 1000000) (hj : j < n) :
    Calls Try.prog 10 #[.pointer (some ⟨g, 0, none⟩), .int .i64 (k : Int), .int .i64 (j : Int), .int .i64 (k : Int)] w fun e w' => e = .returned (.tuple #[]) ∧ RAt w' g n (cntA A n k j k) ∧ w.grownBy w' (some g) := by
  obtain ⟨i0, hi, hz0, hz1, hz2⟩ := info_parts acc_info
  have hlen : (accCells A n).length = n * 4 := by simp [accCells]
  have hc0 := hr.cell (i := 0) (by omega)
  have hf0 := hr.frozen 0
  have hat : RAtB w g b n A := ⟨cap, hr, hc, hrow⟩
  have hd1 : decide (0 ≤ (k : Int)) = true := by simp
  have hd2 : decide ((k : Int) < (n : Int)) = true := by simp; omega
  have hgl := hr.lt
  have ⟨z0, z1, z2, z3, z4, z5, z6, z7⟩ := hm k
  have hd3 : decide (0 ≤ (j : Int)) = true := by simp
  have hd4 : decide ((j : Int) < (n : Int)) = true := by simp; omega
  have hjm := hm j
  have n1 : ¬ k * 4 = j * 4 + 3 := by omega
  have HE : Hid (cntA A n k j k = put (put A k ((A k).plus 1 0 0 0)) j ((put A k ((A k).plus 1 0 0 0) j).plus 0 0 0 1)) := by unfold cntA; rw [if_pos ⟨by omega, by omega⟩, if_pos rfl, addA_in A _ _ _ _ hk, addA_in _ _ _ _ _ hj]; exact Lib.hid rfl
  go_enter Try.func10, Try.ntmps10
  go_wp2_with (first | (go_at_call 17; refine (is_any _ g n _ _ _ (by assumption) hn).mono ?_; rintro e w' ⟨rfl, rfl⟩) | (at_builtin; refine wpList_append_own _ rfl _ _ 43 rfl w.heap.size 32 i0 _ 4 32 Try.underlying43 hi hz0 hz1 hz2 rfl (by decide) (.slice none 0 0) 0 [] rfl (World.ownsRow_nil _ _ _ _) ⟨b, 0, none⟩ n cap (accCells A n) rfl hlen (accCells_from hrow) (accCells_one A n) (by unfold maxLen; omega) (by omega) (Nat.le_refl _) ?_; intro v1 w1 hown1 hg1 _; rw [Nat.zero_add, List.nil_append] at hown1; obtain ⟨b1, cap1, rfl, hb1, hc1, rr1⟩ := rrow_own hown1 (by omega); have r1 := hr.of_block (hg1.block g hgl (fun h => by cases h)); have q1 := r1.cell (i := 0) (by omega); have q2 := r1.frozen 0; have q3 : ¬ b1 = g := (by omega); have q4 : ¬ g = b1 := (by omega); have q5 := rr1.frozen; have s0 : RAtB (w1.setCell ⟨g, 0, none⟩ (.slice (some ⟨b1, 0, none⟩) n cap1)) g b1 n A := RAtB.start r1 rr1 hc1 q3; have q6 : w1.cell? ⟨b1, k * 4, none⟩ = some (.int .i64 (A k).own) := rr1.cell (by omega) (show 0 < 4 by omega); have q7 : w1.cell? ⟨b1, j * 4 + 3, none⟩ = some (.int .i64 (A j).freed) := rr1.cell (by omega) (show 3 < 4 by omega); have s1 := s0.own1 q3 k (rfl); have s2 := s1.freed1 q3 j (put_freed ..)))
  go_end0
  exact ⟨rfl, by rw [HE.out]; exact ⟨b1, s2⟩, grown_row (grown_row (grown_head hg1 _ _) hb1 _ _) hb1 _ _⟩

theorem put_swap (A : Nat → Acc) {k l : Nat} (h : k ≠ l) (x y u v x' y' u' v' : Int) : put (put A l ((A l).plus x y u v)) k ((put A l ((A l).plus x y u v) k).plus x' y' u' v') = put (put A k ((A k).plus x' y' u' v')) l ((put A k ((A k).plus x' y' u' v') l).plus x y u v) := by
  rw [plus_at A l k 0 0 0 0 _ (Ne.symm h), plus_at A k l 0 0 0 0 _ h, put_comm A (Ne.symm h)]

theorem cnt_idle (A : Nat → Acc) {n k : Nat} {f wi : Int} (hk : k < n) (hw : ¬ wi = (k : Int)) (hwo : ¬ (0 ≤ wi ∧ wi < n)) : cntA A n k f wi = addA (put A k ((A k).plus 0 0 1 0)) n f 0 0 0 1 := by
  unfold cntA; rw [if_pos ⟨by omega, by omega⟩, if_neg hw, addA_out A _ _ _ _ hwo, addA_in _ _ _ _ _ hk]
theorem cnt_idle_g (A : Nat → Acc) {n k l : Nat} {f : Int} (hk : k < n) (hl : l < n) (hw : k ≠ l) : cntA A n k f l = addA (put (put A k ((A k).plus 0 0 1 0)) l ((put A k ((A k).plus 0 0 1 0) l).plus 0 1 0 0)) n f 0 0 0 1 := by
  unfold cntA; rw [if_pos ⟨by omega, by omega⟩, if_neg (by omega), addA_in A _ _ _ _ hl, addA_in _ _ _ _ _ hk, put_swap A hw]

theorem rcount_idle (w : World) (g b n cap k : Nat) (f wi : Int) (A : Nat → Acc) (m : Int) (hr : w.rowIs g 45 1 (fun _ => .slice (some ⟨b, 0, none⟩) n cap)) (hc : n ≤ cap) (hrow : RRow w b n A) (hn : n ≤ 64) (hk : k < n) (hm : Within A m) (hM : m ≤ 1000000) (hf : ¬ (0 ≤ f ∧ f < n)) (hw : ¬ wi = (k : Int)) (hwo : ¬ (0 ≤ wi ∧ wi < n)) :
    Calls Try.prog 10 #[.pointer (some ⟨g, 0, none⟩), .int .i64 (k : Int), .int .i64 f, .int .i64 wi] w fun e w' => e = .returned (.tuple #[]) ∧ RAt w' g n (cntA A n k f wi) ∧ w.grownBy w' (some g) := by
  obtain ⟨i0, hi, hz0, hz1, hz2⟩ := info_parts acc_info
  have hlen : (accCells A n).length = n * 4 := by simp [accCells]
  have hc0 := hr.cell (i := 0) (by omega)
  have hf0 := hr.frozen 0
  have hat : RAtB w g b n A := ⟨cap, hr, hc, hrow⟩
  have hd1 : decide (0 ≤ (k : Int)) = true := by simp
  have hd2 : decide ((k : Int) < (n : Int)) = true := by simp; omega
  have hgl := hr.lt
  have ⟨z0, z1, z2, z3, z4, z5, z6, z7⟩ := hm k
  have hd3 : (decide (0 ≤ f) && decide (f < n)) = false := by simp; omega
  have hd5 : (decide (0 ≤ wi) && decide (wi < n)) = false := by simp; omega
  have hd6 : ((k : Int) == wi) = false := by simp; omega
  have HE : Hid (cntA A n k f wi = put A k ((A k).plus 0 0 1 0)) := Lib.hid ((cnt_idle A hk hw hwo).trans (addA_out _ _ _ _ _ hf))
  go_enter Try.func10, Try.ntmps10
  go_wp2_with (first | (go_at_call 17; refine (is_any _ g n _ _ _ (by assumption) hn).mono ?_; rintro e w' ⟨rfl, rfl⟩) | (at_builtin; refine wpList_append_own _ rfl _ _ 43 rfl w.heap.size 32 i0 _ 4 32 Try.underlying43 hi hz0 hz1 hz2 rfl (by decide) (.slice none 0 0) 0 [] rfl (World.ownsRow_nil _ _ _ _) ⟨b, 0, none⟩ n cap (accCells A n) rfl hlen (accCells_from hrow) (accCells_one A n) (by unfold maxLen; omega) (by omega) (Nat.le_refl _) ?_; intro v1 w1 hown1 hg1 _; rw [Nat.zero_add, List.nil_append] at hown1; obtain ⟨b1, cap1, rfl, hb1, hc1, rr1⟩ := rrow_own hown1 (by omega); have r1 := hr.of_block (hg1.block g hgl (fun h => by cases h)); have q1 := r1.cell (i := 0) (by omega); have q2 := r1.frozen 0; have q3 : ¬ b1 = g := (by omega); have q4 : ¬ g = b1 := (by omega); have q5 := rr1.frozen; have s0 : RAtB (w1.setCell ⟨g, 0, none⟩ (.slice (some ⟨b1, 0, none⟩) n cap1)) g b1 n A := RAtB.start r1 rr1 hc1 q3; have q6 : w1.cell? ⟨b1, k * 4 + 2, none⟩ = some (.int .i64 (A k).idle) := rr1.cell (by omega) (show 2 < 4 by omega); have s1 := s0.idle1 q3 k (rfl)))
  go_end0
  exact ⟨rfl, by rw [HE.out]; exact ⟨b1, s1⟩, grown_row (grown_head hg1 _ _) hb1 _ _⟩

theorem rcount_idle_f (w : World) (g b n cap k j : Nat) (wi : Int) (A : Nat → Acc) (m : Int) (hr : w.rowIs g 45 1 (fun _ => .slice (some ⟨b, 0, none⟩) n cap)) (hc : n ≤ cap) (hrow : RRow w b n A) (hn : n ≤ 64) (hk : k < n) (hm : Within A m) (hM : m ≤ 1000000) (hj : j < n) (hw : ¬ wi = (k : Int)) (hwo : ¬ (0 ≤ wi ∧ wi < n)) :
    Calls Try.prog 10 #[.pointer (some ⟨g, 0, none⟩), .int .i64 (k : Int), .int .i64 (j : Int), .int .i64 wi] w fun e w' => e = .returned (.tuple #[]) ∧ RAt w' g n (cntA A n k j wi) ∧ w.grownBy w' (some g) := by
  obtain ⟨i0, hi, hz0, hz1, hz2⟩ := info_parts acc_info
  have hlen : (accCells A n).length = n * 4 := by simp [accCells]
  have hc0 := hr.cell (i := 0) (by omega)
  have hf0 := hr.frozen 0
  have hat : RAtB w g b n A := ⟨cap, hr, hc, hrow⟩
  have hd1 : decide (0 ≤ (k : Int)) = true := by simp
  have hd2 : decide ((k : Int) < (n : Int)) = true := by simp; omega
  have hgl := hr.lt
  have ⟨z0, z1, z2, z3, z4, z5, z6, z7⟩ := hm k
  have hd3 : decide (0 ≤ (j : Int)) = true := by simp
  have hd4 : decide ((j : Int) < (n : Int)) = true := by simp; omega
  have hjm := hm j
  have n1 : ¬ k * 4 + 2 = j * 4 + 3 := by omega
  have hd5 : (decide (0 ≤ wi) && decide (wi < n)) = false := by simp; omega
  have hd6 : ((k : Int) == wi) = false := by simp; omega
  have HE : Hid (cntA A n k j wi = put (put A k ((A k).plus 0 0 1 0)) j ((put A k ((A k).plus 0 0 1 0) j).plus 0 0 0 1)) := Lib.hid ((cnt_idle A hk hw hwo).trans (addA_in _ _ _ _ _ hj))
  go_enter Try.func10, Try.ntmps10
  go_wp2_with (first | (go_at_call 17; refine (is_any _ g n _ _ _ (by assumption) hn).mono ?_; rintro e w' ⟨rfl, rfl⟩) | (at_builtin; refine wpList_append_own _ rfl _ _ 43 rfl w.heap.size 32 i0 _ 4 32 Try.underlying43 hi hz0 hz1 hz2 rfl (by decide) (.slice none 0 0) 0 [] rfl (World.ownsRow_nil _ _ _ _) ⟨b, 0, none⟩ n cap (accCells A n) rfl hlen (accCells_from hrow) (accCells_one A n) (by unfold maxLen; omega) (by omega) (Nat.le_refl _) ?_; intro v1 w1 hown1 hg1 _; rw [Nat.zero_add, List.nil_append] at hown1; obtain ⟨b1, cap1, rfl, hb1, hc1, rr1⟩ := rrow_own hown1 (by omega); have r1 := hr.of_block (hg1.block g hgl (fun h => by cases h)); have q1 := r1.cell (i := 0) (by omega); have q2 := r1.frozen 0; have q3 : ¬ b1 = g := (by omega); have q4 : ¬ g = b1 := (by omega); have q5 := rr1.frozen; have s0 : RAtB (w1.setCell ⟨g, 0, none⟩ (.slice (some ⟨b1, 0, none⟩) n cap1)) g b1 n A := RAtB.start r1 rr1 hc1 q3; have q6 : w1.cell? ⟨b1, k * 4 + 2, none⟩ = some (.int .i64 (A k).idle) := rr1.cell (by omega) (show 2 < 4 by omega); have q7 : w1.cell? ⟨b1, j * 4 + 3, none⟩ = some (.int .i64 (A j).freed) := rr1.cell (by omega) (show 3 < 4 by omega); have s1 := s0.idle1 q3 k (rfl); have s2 := s1.freed1 q3 j (put_freed ..)))
  go_end0
  exact ⟨rfl, by rw [HE.out]; exact ⟨b1, s2⟩, grown_row (grown_row (grown_head hg1 _ _) hb1 _ _) hb1 _ _⟩

theorem rcount_idle_g (w : World) (g b n cap k l : Nat) (f : Int) (A : Nat → Acc) (m : Int) (hr : w.rowIs g 45 1 (fun _ => .slice (some ⟨b, 0, none⟩) n cap)) (hc : n ≤ cap) (hrow : RRow w b n A) (hn : n ≤ 64) (hk : k < n) (hm : Within A m) (hM : m ≤ 1000000) (hf : ¬ (0 ≤ f ∧ f < n)) (hl : l < n) (hw : k ≠ l) :
    Calls Try.prog 10 #[.pointer (some ⟨g, 0, none⟩), .int .i64 (k : Int), .int .i64 f, .int .i64 (l : Int)] w fun e w' => e = .returned (.tuple #[]) ∧ RAt w' g n (cntA A n k f l) ∧ w.grownBy w' (some g) := by
  obtain ⟨i0, hi, hz0, hz1, hz2⟩ := info_parts acc_info
  have hlen : (accCells A n).length = n * 4 := by simp [accCells]
  have hc0 := hr.cell (i := 0) (by omega)
  have hf0 := hr.frozen 0
  have hat : RAtB w g b n A := ⟨cap, hr, hc, hrow⟩
  have hd1 : decide (0 ≤ (k : Int)) = true := by simp
  have hd2 : decide ((k : Int) < (n : Int)) = true := by simp; omega
  have hgl := hr.lt
  have ⟨z0, z1, z2, z3, z4, z5, z6, z7⟩ := hm k
  have hd3 : (decide (0 ≤ f) && decide (f < n)) = false := by simp; omega
  have hd5 : decide (0 ≤ (l : Int)) = true := by simp
  have hd7 : decide ((l : Int) < (n : Int)) = true := by simp; omega
  have hd6 : ((k : Int) == (l : Int)) = false := by simp; omega
  have hlm := hm l
  have n2 : ¬ k * 4 + 2 = l * 4 + 1 := by omega
  have HE : Hid (cntA A n k f l = put (put A k ((A k).plus 0 0 1 0)) l ((put A k ((A k).plus 0 0 1 0) l).plus 0 1 0 0)) := Lib.hid ((cnt_idle_g A hk hl hw).trans (addA_out _ _ _ _ _ hf))
  go_enter Try.func10, Try.ntmps10
  go_wp2_with (first | (go_at_call 17; refine (is_any _ g n _ _ _ (by assumption) hn).mono ?_; rintro e w' ⟨rfl, rfl⟩) | (at_builtin; refine wpList_append_own _ rfl _ _ 43 rfl w.heap.size 32 i0 _ 4 32 Try.underlying43 hi hz0 hz1 hz2 rfl (by decide) (.slice none 0 0) 0 [] rfl (World.ownsRow_nil _ _ _ _) ⟨b, 0, none⟩ n cap (accCells A n) rfl hlen (accCells_from hrow) (accCells_one A n) (by unfold maxLen; omega) (by omega) (Nat.le_refl _) ?_; intro v1 w1 hown1 hg1 _; rw [Nat.zero_add, List.nil_append] at hown1; obtain ⟨b1, cap1, rfl, hb1, hc1, rr1⟩ := rrow_own hown1 (by omega); have r1 := hr.of_block (hg1.block g hgl (fun h => by cases h)); have q1 := r1.cell (i := 0) (by omega); have q2 := r1.frozen 0; have q3 : ¬ b1 = g := (by omega); have q4 : ¬ g = b1 := (by omega); have q5 := rr1.frozen; have s0 : RAtB (w1.setCell ⟨g, 0, none⟩ (.slice (some ⟨b1, 0, none⟩) n cap1)) g b1 n A := RAtB.start r1 rr1 hc1 q3; have q6 : w1.cell? ⟨b1, k * 4 + 2, none⟩ = some (.int .i64 (A k).idle) := rr1.cell (by omega) (show 2 < 4 by omega); have q8 : w1.cell? ⟨b1, l * 4 + 1, none⟩ = some (.int .i64 (A l).got) := rr1.cell (by omega) (show 1 < 4 by omega); have s1 := s0.idle1 q3 k (rfl); have s2 := s1.got1 q3 l (put_got ..)))
  go_end0
  exact ⟨rfl, by rw [HE.out]; exact ⟨b1, s2⟩, grown_row (grown_row (grown_head hg1 _ _) hb1 _ _) hb1 _ _⟩

set_option maxRecDepth 100000 in
set_option maxHeartbeats 3200000 in
theorem rcount_idle_gf (w : World) (g b n cap k l j : Nat) (A : Nat → Acc) (m : Int) (hr : w.rowIs g 45 1 (fun _ => .slice (some ⟨b, 0, none⟩) n cap)) (hc : n ≤ cap) (hrow : RRow w b n A) (hn : n ≤ 64) (hk : k < n) (hm : Within A m) (hM : m ≤ 1000000) (hj : j < n) (hl : l < n) (hw : k ≠ l) :
    Calls Try.prog 10 #[.pointer (some ⟨g, 0, none⟩), .int .i64 (k : Int), .int .i64 (j : Int), .int .i64 (l : Int)] w fun e w' => e = .returned (.tuple #[]) ∧ RAt w' g n (cntA A n k j l) ∧ w.grownBy w' (some g) := by
  obtain ⟨i0, hi, hz0, hz1, hz2⟩ := info_parts acc_info
  have hlen : (accCells A n).length = n * 4 := by simp [accCells]
  have hc0 := hr.cell (i := 0) (by omega)
  have hf0 := hr.frozen 0
  have hat : RAtB w g b n A := ⟨cap, hr, hc, hrow⟩
  have hd1 : decide (0 ≤ (k : Int)) = true := by simp
  have hd2 : decide ((k : Int) < (n : Int)) = true := by simp; omega
  have hgl := hr.lt
  have ⟨z0, z1, z2, z3, z4, z5, z6, z7⟩ := hm k
  have hd3 : decide (0 ≤ (j : Int)) = true := by simp
  have hd4 : decide ((j : Int) < (n : Int)) = true := by simp; omega
  have hjm := hm j
  have n1 : ¬ k * 4 + 2 = j * 4 + 3 := by omega
  have hd5 : decide (0 ≤ (l : Int)) = true := by simp
  have hd7 : decide ((l : Int) < (n : Int)) = true := by simp; omega
  have hd6 : ((k : Int) == (l : Int)) = false := by simp; omega
  have hlm := hm l
  have n2 : ¬ k * 4 + 2 = l * 4 + 1 := by omega
  have n3 : ¬ l * 4 + 1 = j * 4 + 3 := by omega
  have HE : Hid (cntA A n k j l = put (put (put A k ((A k).plus 0 0 1 0)) l ((put A k ((A k).plus 0 0 1 0) l).plus 0 1 0 0)) j ((put (put A k ((A k).plus 0 0 1 0)) l ((put A k ((A k).plus 0 0 1 0) l).plus 0 1 0 0) j).plus 0 0 0 1)) := Lib.hid ((cnt_idle_g A hk hl hw).trans (addA_in _ _ _ _ _ hj))
  go_enter Try.func10, Try.ntmps10
  go_wp2_with (first | (go_at_call 17; refine (is_any _ g n _ _ _ (by assumption) hn).mono ?_; rintro e w' ⟨rfl, rfl⟩) | (at_builtin; refine wpList_append_own _ rfl _ _ 43 rfl w.heap.size 32 i0 _ 4 32 Try.underlying43 hi hz0 hz1 hz2 rfl (by decide) (.slice none 0 0) 0 [] rfl (World.ownsRow_nil _ _ _ _) ⟨b, 0, none⟩ n cap (accCells A n) rfl hlen (accCells_from hrow) (accCells_one A n) (by unfold maxLen; omega) (by omega) (Nat.le_refl _) ?_; intro v1 w1 hown1 hg1 _; rw [Nat.zero_add, List.nil_append] at hown1; obtain ⟨b1, cap1, rfl, hb1, hc1, rr1⟩ := rrow_own hown1 (by omega); have r1 := hr.of_block (hg1.block g hgl (fun h => by cases h)); have q1 := r1.cell (i := 0) (by omega); have q2 := r1.frozen 0; have q3 : ¬ b1 = g := (by omega); have q4 : ¬ g = b1 := (by omega); have q5 := rr1.frozen; have s0 : RAtB (w1.setCell ⟨g, 0, none⟩ (.slice (some ⟨b1, 0, none⟩) n cap1)) g b1 n A := RAtB.start r1 rr1 hc1 q3; have q6 : w1.cell? ⟨b1, k * 4 + 2, none⟩ = some (.int .i64 (A k).idle) := rr1.cell (by omega) (show 2 < 4 by omega); have q8 : w1.cell? ⟨b1, l * 4 + 1, none⟩ = some (.int .i64 (A l).got) := rr1.cell (by omega) (show 1 < 4 by omega); have q7 : w1.cell? ⟨b1, j * 4 + 3, none⟩ = some (.int .i64 (A j).freed) := rr1.cell (by omega) (show 3 < 4 by omega); have s1 := s0.idle1 q3 k (rfl); have s2 := s1.got1 q3 l (put_got ..); have s3 := s2.freed1 q3 j ((put_freed ..).trans (put_freed ..))))
  go_end0
  exact ⟨rfl, by rw [HE.out]; exact ⟨b1, s3⟩, grown_row (grown_row (grown_row (grown_head hg1 _ _) hb1 _ _) hb1 _ _) hb1 _ _⟩

theorem rcount_out (w : World) (g b n cap : Nat) (o f wi : Int) (A : Nat → Acc) (hr : w.rowIs g 45 1 (fun _ => .slice (some ⟨b, 0, none⟩) n cap)) (hc : n ≤ cap) (hrow : RRow w b n A) (hn : n ≤ 64) (ho : ¬ (0 ≤ o ∧ o < n)) :
    Calls Try.prog 10 #[.pointer (some ⟨g, 0, none⟩), .int .i64 o, .int .i64 f, .int .i64 wi] w fun e w' => e = .returned (.tuple #[]) ∧ w = w' := by
  have hat : RAtB w g b n A := ⟨cap, hr, hc, hrow⟩
  have hd3 : (decide (0 ≤ o) && decide (o < n)) = false := by simp; omega
  go_enter Try.func10, Try.ntmps10
  go_wp2_with (first | (go_at_call 17; refine (is_any _ g n _ _ _ (by assumption) hn).mono ?_; rintro e w' ⟨rfl, rfl⟩))
  refine bodyPost_ret (results_none rfl _ _ _) rfl ?_
  exact ⟨rfl, rfl⟩

theorem rcount_any (w : World) (g n : Nat) (o f wi : Int) (A : Nat → Acc) (m : Int) (h : RAt w g n A) (hn : n ≤ 64) (hm : Within A m) (hM : m ≤ 1000000) :
    Calls Try.prog 10 #[.pointer (some ⟨g, 0, none⟩), .int .i64 o, .int .i64 f, .int .i64 wi] w fun e w' => e = .returned (.tuple #[]) ∧ RAt w' g n (cntA A n o f wi) ∧ w.grownBy w' (some g) := by
  obtain ⟨b, cap, hr, hc, hrow⟩ := h
  by_cases ho : 0 ≤ o ∧ o < n
  case neg =>
    refine (rcount_out w g b n cap o f wi A hr hc hrow hn ho).mono ?_
    rintro e w' ⟨rfl, rfl⟩
    exact ⟨rfl, by unfold cntA; rw [if_neg ho]; exact ⟨b, cap, hr, hc, hrow⟩, World.grownBy.refl _ _⟩
  obtain ⟨k, rfl⟩ : ∃ k : Nat, o = (k : Int) := ⟨o.toNat, by omega⟩
  have hk : k < n := by omega
  by_cases hw : wi = (k : Int)
  · subst hw
    by_cases hf : 0 ≤ f ∧ f < n
    · obtain ⟨j, rfl⟩ : ∃ j : Nat, f = (j : Int) := ⟨f.toNat, by omega⟩
      exact rcount_own_f w g b n cap k j A m hr hc hrow hn hk hm hM (by omega)
    · exact rcount_own w g b n cap k f A m hr hc hrow hn hk hm hM hf
  · by_cases hwo : 0 ≤ wi ∧ wi < n
    · obtain ⟨l, rfl⟩ : ∃ l : Nat, wi = (l : Int) := ⟨wi.toNat, by omega⟩
      by_cases hf : 0 ≤ f ∧ f < n
      · obtain ⟨j, rfl⟩ : ∃ j : Nat, f = (j : Int) := ⟨f.toNat, by omega⟩
        exact rcount_idle_gf w g b n cap k l j A m hr hc hrow hn hk hm hM (by omega) (by omega) (by omega)
      · exact rcount_idle_g w g b n cap k l f A m hr hc hrow hn hk hm hM hf (by omega) (by omega)
    · by_cases hf : 0 ≤ f ∧ f < n
      · obtain ⟨j, rfl⟩ : ∃ j : Nat, f = (j : Int) := ⟨f.toNat, by omega⟩
        exact rcount_idle_f w g b n cap k j wi A m hr hc hrow hn hk hm hM (by omega) hw hwo
      · exact rcount_idle w g b n cap k f wi A m hr hc hrow hn hk hm hM hf hw hwo

end Go.Proofs.Ytomadecehklbmaa
