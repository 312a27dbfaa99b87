/- The reference's single, walked. -/
import Derived.Test.YtljgpcaljedhpaaDoorR5
namespace Go.Proofs.YtljgpcaljedhpaaDoor
open Go.RowKit

set_option maxHeartbeats 1000000 in
theorem single_bad (k : Int) (t : ByteArray) (n m : Int) (f : Bool) (w : World)
    (h : k < 0 ∨ k > 5 ∨ (k = 1 ∧ (n < 0 ∨ n > 3)) ∨ (k = 4 ∧ (n < -100 ∨ n > 100)) ∨ (k = 5 ∧ (n < 0 ∨ n > 100 ∨ m < 0 ∨ m > 100))) :
    Calls Tryd.prog 45 #[.agg #[.int .i64 k, .string t, .int .i64 n, .int .i64 m, .bool f]] w fun e w' => e = .returned (.int .i64 1) ∧ Below w.heap.size w w' := by
  rcases h with h | h | ⟨rfl, h⟩ | ⟨rfl, h⟩ | ⟨rfl, h⟩
  · go_enter Tryd.func45, Tryd.ntmps45
    go_wp2_with fail
    go_ret
    exact ⟨rfl, new1 _ _⟩
  · have h0 : ¬ k < 0 := by omega
    have h' : (5 : Int) < k := h
    clear h
    go_enter Tryd.func45, Tryd.ntmps45
    go_wp2_with fail
    go_ret
    exact ⟨rfl, new1 _ _⟩
  · rcases h with h | h
    · go_enter Tryd.func45, Tryd.ntmps45
      go_wp2_with fail
      go_ret
      exact ⟨rfl, new1 _ _⟩
    · have h0 : ¬ n < 0 := by omega
      have h' : (3 : Int) < n := h
      clear h
      go_enter Tryd.func45, Tryd.ntmps45
      go_wp2_with fail
      go_ret
      exact ⟨rfl, new1 _ _⟩
  · rcases h with h | h
    · go_enter Tryd.func45, Tryd.ntmps45
      go_wp2_with fail
      go_ret
      exact ⟨rfl, new1 _ _⟩
    · have h0 : ¬ n < -100 := by omega
      have h' : (100 : Int) < n := h
      clear h
      go_enter Tryd.func45, Tryd.ntmps45
      go_wp2_with fail
      go_ret
      exact ⟨rfl, new1 _ _⟩
  · by_cases a : n < 0
    · clear h
      go_enter Tryd.func45, Tryd.ntmps45
      go_wp2_with fail
      go_ret
      exact ⟨rfl, new1 _ _⟩
    by_cases b : n > 100
    · have h' : (100 : Int) < n := b
      clear h b
      go_enter Tryd.func45, Tryd.ntmps45
      go_wp2_with fail
      go_ret
      exact ⟨rfl, new1 _ _⟩
    have b' : n ≤ 100 := by omega
    by_cases c : m < 0
    · clear h b
      go_enter Tryd.func45, Tryd.ntmps45
      go_wp2_with fail
      go_ret
      exact ⟨rfl, new1 _ _⟩
    · have h' : (100 : Int) < m := by omega
      clear h b
      go_enter Tryd.func45, Tryd.ntmps45
      go_wp2_with fail
      go_ret
      exact ⟨rfl, new1 _ _⟩

set_option maxHeartbeats 2000000 in
theorem single_good {E : World → Prop} (L : LibC E) (k : Int) (t : ByteArray) (n m : Int) (f : Bool) (w : World) (hE : E w) (ht : t.size < 4294967281)
    (h : ¬ (k < 0 ∨ k > 5 ∨ (k = 1 ∧ (n < 0 ∨ n > 3)) ∨ (k = 4 ∧ (n < -100 ∨ n > 100)) ∨ (k = 5 ∧ (n < 0 ∨ n > 100 ∨ m < 0 ∨ m > 100)))) :
    Calls Tryd.prog 45 #[.agg #[.int .i64 k, .string t, .int .i64 n, .int .i64 m, .bool f]] w fun e w' =>
      e = .returned (.int .i64 (if Lib.validD t.data.toList = false then 2 else if (k = 2 ∨ k = 3) ∧ 0 < lfs t then 2 else 0)) ∧ Below w.heap.size w w' := by
  have hv := fun W hE => L.val t W hE (by omega)
  have hc := fun W => feeds_lf t (by omega) W
  have hl := lfs_le t
  have hf := fw_le t
  generalize Lib.validD t.data.toList = V at *
  generalize lfs t = N at *
  generalize fw t = B at *
  have HV := Lib.hid hv
  have HC := Lib.hid hc
  clear hv hc
  have hk : k = 0 ∨ k = 1 ∨ k = 2 ∨ k = 3 ∨ k = 4 ∨ k = 5 := by omega
  rcases hk with rfl | rfl | rfl | rfl | rfl | rfl
  · clear h
    cases V
    · go_enter Tryd.func45, Tryd.ntmps45
      go_wp2_with (first | (go_at_call 41; refine (HC.out _).mono ?_; rintro e w' ⟨rfl, rfl⟩) | (go_at_call 64; refine (HV.out _ (L.below hE (new1 _ _))).mono ?_; rintro e w1 ⟨rfl, hb1⟩; have hloc := blk_below (heap_alloc_new w (.cells #[.int .i64 0, .string t, .int .i64 n, .int .i64 m, .bool f] 77)) hb1; have l0 : w1.cell? ⟨w.heap.size, 0, none⟩ = some (.int .i64 0) := blk_cell hloc 0; have HB1 := Lib.hid (chain (new1 _ _) hb1); clear hb1 hloc))
      go_ret
      exact ⟨rfl, HB1.out⟩
    · by_cases hN : 0 < N
      · have hN' : (0 : Int) < (N : Int) := by omega
        rw [if_neg (by decide), show (if ((0 : Int) = 2 ∨ (0 : Int) = 3) ∧ 0 < N then (2 : Int) else 0) = 0 by simp [hN]]
        clear hN
        go_enter Tryd.func45, Tryd.ntmps45
        go_wp2_with (first | (go_at_call 41; refine (HC.out _).mono ?_; rintro e w' ⟨rfl, rfl⟩) | (go_at_call 64; refine (HV.out _ (L.below hE (new1 _ _))).mono ?_; rintro e w1 ⟨rfl, hb1⟩; have hloc := blk_below (heap_alloc_new w (.cells #[.int .i64 0, .string t, .int .i64 n, .int .i64 m, .bool f] 77)) hb1; have l0 : w1.cell? ⟨w.heap.size, 0, none⟩ = some (.int .i64 0) := blk_cell hloc 0; have HB1 := Lib.hid (chain (new1 _ _) hb1); clear hb1 hloc))
        go_ret
        exact ⟨rfl, HB1.out⟩
      · have hN' : ¬ (0 : Int) < (N : Int) := by omega
        rw [if_neg (by decide), show (if ((0 : Int) = 2 ∨ (0 : Int) = 3) ∧ 0 < N then (2 : Int) else 0) = 0 by simp [hN]]
        clear hN
        go_enter Tryd.func45, Tryd.ntmps45
        go_wp2_with (first | (go_at_call 41; refine (HC.out _).mono ?_; rintro e w' ⟨rfl, rfl⟩) | (go_at_call 64; refine (HV.out _ (L.below hE (new1 _ _))).mono ?_; rintro e w1 ⟨rfl, hb1⟩; have hloc := blk_below (heap_alloc_new w (.cells #[.int .i64 0, .string t, .int .i64 n, .int .i64 m, .bool f] 77)) hb1; have l0 : w1.cell? ⟨w.heap.size, 0, none⟩ = some (.int .i64 0) := blk_cell hloc 0; have HB1 := Lib.hid (chain (new1 _ _) hb1); clear hb1 hloc))
        go_ret
        exact ⟨rfl, HB1.out⟩
  · have a0 : 0 ≤ n := by omega
    have a1 : n ≤ 3 := by omega
    clear h
    cases V
    · go_enter Tryd.func45, Tryd.ntmps45
      go_wp2_with (first | (go_at_call 41; refine (HC.out _).mono ?_; rintro e w' ⟨rfl, rfl⟩) | (go_at_call 64; refine (HV.out _ (L.below hE (new1 _ _))).mono ?_; rintro e w1 ⟨rfl, hb1⟩; have hloc := blk_below (heap_alloc_new w (.cells #[.int .i64 1, .string t, .int .i64 n, .int .i64 m, .bool f] 77)) hb1; have l0 : w1.cell? ⟨w.heap.size, 0, none⟩ = some (.int .i64 1) := blk_cell hloc 0; have HB1 := Lib.hid (chain (new1 _ _) hb1); clear hb1 hloc))
      go_ret
      exact ⟨rfl, HB1.out⟩
    · by_cases hN : 0 < N
      · have hN' : (0 : Int) < (N : Int) := by omega
        rw [if_neg (by decide), show (if ((1 : Int) = 2 ∨ (1 : Int) = 3) ∧ 0 < N then (2 : Int) else 0) = 0 by simp [hN]]
        clear hN
        go_enter Tryd.func45, Tryd.ntmps45
        go_wp2_with (first | (go_at_call 41; refine (HC.out _).mono ?_; rintro e w' ⟨rfl, rfl⟩) | (go_at_call 64; refine (HV.out _ (L.below hE (new1 _ _))).mono ?_; rintro e w1 ⟨rfl, hb1⟩; have hloc := blk_below (heap_alloc_new w (.cells #[.int .i64 1, .string t, .int .i64 n, .int .i64 m, .bool f] 77)) hb1; have l0 : w1.cell? ⟨w.heap.size, 0, none⟩ = some (.int .i64 1) := blk_cell hloc 0; have HB1 := Lib.hid (chain (new1 _ _) hb1); clear hb1 hloc))
        go_ret
        exact ⟨rfl, HB1.out⟩
      · have hN' : ¬ (0 : Int) < (N : Int) := by omega
        rw [if_neg (by decide), show (if ((1 : Int) = 2 ∨ (1 : Int) = 3) ∧ 0 < N then (2 : Int) else 0) = 0 by simp [hN]]
        clear hN
        go_enter Tryd.func45, Tryd.ntmps45
        go_wp2_with (first | (go_at_call 41; refine (HC.out _).mono ?_; rintro e w' ⟨rfl, rfl⟩) | (go_at_call 64; refine (HV.out _ (L.below hE (new1 _ _))).mono ?_; rintro e w1 ⟨rfl, hb1⟩; have hloc := blk_below (heap_alloc_new w (.cells #[.int .i64 1, .string t, .int .i64 n, .int .i64 m, .bool f] 77)) hb1; have l0 : w1.cell? ⟨w.heap.size, 0, none⟩ = some (.int .i64 1) := blk_cell hloc 0; have HB1 := Lib.hid (chain (new1 _ _) hb1); clear hb1 hloc))
        go_ret
        exact ⟨rfl, HB1.out⟩
  · clear h
    cases V
    · go_enter Tryd.func45, Tryd.ntmps45
      go_wp2_with (first | (go_at_call 41; refine (HC.out _).mono ?_; rintro e w' ⟨rfl, rfl⟩) | (go_at_call 64; refine (HV.out _ (L.below hE (new1 _ _))).mono ?_; rintro e w1 ⟨rfl, hb1⟩; have hloc := blk_below (heap_alloc_new w (.cells #[.int .i64 2, .string t, .int .i64 n, .int .i64 m, .bool f] 77)) hb1; have l0 : w1.cell? ⟨w.heap.size, 0, none⟩ = some (.int .i64 2) := blk_cell hloc 0; have HB1 := Lib.hid (chain (new1 _ _) hb1); clear hb1 hloc))
      go_ret
      exact ⟨rfl, HB1.out⟩
    · by_cases hN : 0 < N
      · have hN' : (0 : Int) < (N : Int) := by omega
        rw [if_neg (by decide), show (if ((2 : Int) = 2 ∨ (2 : Int) = 3) ∧ 0 < N then (2 : Int) else 0) = 2 by simp [hN]]
        clear hN
        go_enter Tryd.func45, Tryd.ntmps45
        go_wp2_with (first | (go_at_call 41; refine (HC.out _).mono ?_; rintro e w' ⟨rfl, rfl⟩) | (go_at_call 64; refine (HV.out _ (L.below hE (new1 _ _))).mono ?_; rintro e w1 ⟨rfl, hb1⟩; have hloc := blk_below (heap_alloc_new w (.cells #[.int .i64 2, .string t, .int .i64 n, .int .i64 m, .bool f] 77)) hb1; have l0 : w1.cell? ⟨w.heap.size, 0, none⟩ = some (.int .i64 2) := blk_cell hloc 0; have HB1 := Lib.hid (chain (new1 _ _) hb1); clear hb1 hloc))
        go_ret
        exact ⟨rfl, HB1.out⟩
      · have hN' : ¬ (0 : Int) < (N : Int) := by omega
        rw [if_neg (by decide), show (if ((2 : Int) = 2 ∨ (2 : Int) = 3) ∧ 0 < N then (2 : Int) else 0) = 0 by simp [hN]]
        clear hN
        go_enter Tryd.func45, Tryd.ntmps45
        go_wp2_with (first | (go_at_call 41; refine (HC.out _).mono ?_; rintro e w' ⟨rfl, rfl⟩) | (go_at_call 64; refine (HV.out _ (L.below hE (new1 _ _))).mono ?_; rintro e w1 ⟨rfl, hb1⟩; have hloc := blk_below (heap_alloc_new w (.cells #[.int .i64 2, .string t, .int .i64 n, .int .i64 m, .bool f] 77)) hb1; have l0 : w1.cell? ⟨w.heap.size, 0, none⟩ = some (.int .i64 2) := blk_cell hloc 0; have HB1 := Lib.hid (chain (new1 _ _) hb1); clear hb1 hloc))
        go_ret
        exact ⟨rfl, HB1.out⟩
  · clear h
    cases V
    · go_enter Tryd.func45, Tryd.ntmps45
      go_wp2_with (first | (go_at_call 41; refine (HC.out _).mono ?_; rintro e w' ⟨rfl, rfl⟩) | (go_at_call 64; refine (HV.out _ (L.below hE (new1 _ _))).mono ?_; rintro e w1 ⟨rfl, hb1⟩; have hloc := blk_below (heap_alloc_new w (.cells #[.int .i64 3, .string t, .int .i64 n, .int .i64 m, .bool f] 77)) hb1; have l0 : w1.cell? ⟨w.heap.size, 0, none⟩ = some (.int .i64 3) := blk_cell hloc 0; have HB1 := Lib.hid (chain (new1 _ _) hb1); clear hb1 hloc))
      go_ret
      exact ⟨rfl, HB1.out⟩
    · by_cases hN : 0 < N
      · have hN' : (0 : Int) < (N : Int) := by omega
        rw [if_neg (by decide), show (if ((3 : Int) = 2 ∨ (3 : Int) = 3) ∧ 0 < N then (2 : Int) else 0) = 2 by simp [hN]]
        clear hN
        go_enter Tryd.func45, Tryd.ntmps45
        go_wp2_with (first | (go_at_call 41; refine (HC.out _).mono ?_; rintro e w' ⟨rfl, rfl⟩) | (go_at_call 64; refine (HV.out _ (L.below hE (new1 _ _))).mono ?_; rintro e w1 ⟨rfl, hb1⟩; have hloc := blk_below (heap_alloc_new w (.cells #[.int .i64 3, .string t, .int .i64 n, .int .i64 m, .bool f] 77)) hb1; have l0 : w1.cell? ⟨w.heap.size, 0, none⟩ = some (.int .i64 3) := blk_cell hloc 0; have HB1 := Lib.hid (chain (new1 _ _) hb1); clear hb1 hloc))
        go_ret
        exact ⟨rfl, HB1.out⟩
      · have hN' : ¬ (0 : Int) < (N : Int) := by omega
        rw [if_neg (by decide), show (if ((3 : Int) = 2 ∨ (3 : Int) = 3) ∧ 0 < N then (2 : Int) else 0) = 0 by simp [hN]]
        clear hN
        go_enter Tryd.func45, Tryd.ntmps45
        go_wp2_with (first | (go_at_call 41; refine (HC.out _).mono ?_; rintro e w' ⟨rfl, rfl⟩) | (go_at_call 64; refine (HV.out _ (L.below hE (new1 _ _))).mono ?_; rintro e w1 ⟨rfl, hb1⟩; have hloc := blk_below (heap_alloc_new w (.cells #[.int .i64 3, .string t, .int .i64 n, .int .i64 m, .bool f] 77)) hb1; have l0 : w1.cell? ⟨w.heap.size, 0, none⟩ = some (.int .i64 3) := blk_cell hloc 0; have HB1 := Lib.hid (chain (new1 _ _) hb1); clear hb1 hloc))
        go_ret
        exact ⟨rfl, HB1.out⟩
  · have a0 : -100 ≤ n := by omega
    have a1 : n ≤ 100 := by omega
    clear h
    cases V
    · go_enter Tryd.func45, Tryd.ntmps45
      go_wp2_with (first | (go_at_call 41; refine (HC.out _).mono ?_; rintro e w' ⟨rfl, rfl⟩) | (go_at_call 64; refine (HV.out _ (L.below hE (new1 _ _))).mono ?_; rintro e w1 ⟨rfl, hb1⟩; have hloc := blk_below (heap_alloc_new w (.cells #[.int .i64 4, .string t, .int .i64 n, .int .i64 m, .bool f] 77)) hb1; have l0 : w1.cell? ⟨w.heap.size, 0, none⟩ = some (.int .i64 4) := blk_cell hloc 0; have HB1 := Lib.hid (chain (new1 _ _) hb1); clear hb1 hloc))
      go_ret
      exact ⟨rfl, HB1.out⟩
    · by_cases hN : 0 < N
      · have hN' : (0 : Int) < (N : Int) := by omega
        rw [if_neg (by decide), show (if ((4 : Int) = 2 ∨ (4 : Int) = 3) ∧ 0 < N then (2 : Int) else 0) = 0 by simp [hN]]
        clear hN
        go_enter Tryd.func45, Tryd.ntmps45
        go_wp2_with (first | (go_at_call 41; refine (HC.out _).mono ?_; rintro e w' ⟨rfl, rfl⟩) | (go_at_call 64; refine (HV.out _ (L.below hE (new1 _ _))).mono ?_; rintro e w1 ⟨rfl, hb1⟩; have hloc := blk_below (heap_alloc_new w (.cells #[.int .i64 4, .string t, .int .i64 n, .int .i64 m, .bool f] 77)) hb1; have l0 : w1.cell? ⟨w.heap.size, 0, none⟩ = some (.int .i64 4) := blk_cell hloc 0; have HB1 := Lib.hid (chain (new1 _ _) hb1); clear hb1 hloc))
        go_ret
        exact ⟨rfl, HB1.out⟩
      · have hN' : ¬ (0 : Int) < (N : Int) := by omega
        rw [if_neg (by decide), show (if ((4 : Int) = 2 ∨ (4 : Int) = 3) ∧ 0 < N then (2 : Int) else 0) = 0 by simp [hN]]
        clear hN
        go_enter Tryd.func45, Tryd.ntmps45
        go_wp2_with (first | (go_at_call 41; refine (HC.out _).mono ?_; rintro e w' ⟨rfl, rfl⟩) | (go_at_call 64; refine (HV.out _ (L.below hE (new1 _ _))).mono ?_; rintro e w1 ⟨rfl, hb1⟩; have hloc := blk_below (heap_alloc_new w (.cells #[.int .i64 4, .string t, .int .i64 n, .int .i64 m, .bool f] 77)) hb1; have l0 : w1.cell? ⟨w.heap.size, 0, none⟩ = some (.int .i64 4) := blk_cell hloc 0; have HB1 := Lib.hid (chain (new1 _ _) hb1); clear hb1 hloc))
        go_ret
        exact ⟨rfl, HB1.out⟩
  · have a0 : 0 ≤ n := by omega
    have a1 : n ≤ 100 := by omega
    have a2 : 0 ≤ m := by omega
    have a3 : m ≤ 100 := by omega
    clear h
    cases V
    · go_enter Tryd.func45, Tryd.ntmps45
      go_wp2_with (first | (go_at_call 41; refine (HC.out _).mono ?_; rintro e w' ⟨rfl, rfl⟩) | (go_at_call 64; refine (HV.out _ (L.below hE (new1 _ _))).mono ?_; rintro e w1 ⟨rfl, hb1⟩; have hloc := blk_below (heap_alloc_new w (.cells #[.int .i64 5, .string t, .int .i64 n, .int .i64 m, .bool f] 77)) hb1; have l0 : w1.cell? ⟨w.heap.size, 0, none⟩ = some (.int .i64 5) := blk_cell hloc 0; have HB1 := Lib.hid (chain (new1 _ _) hb1); clear hb1 hloc))
      go_ret
      exact ⟨rfl, HB1.out⟩
    · by_cases hN : 0 < N
      · have hN' : (0 : Int) < (N : Int) := by omega
        rw [if_neg (by decide), show (if ((5 : Int) = 2 ∨ (5 : Int) = 3) ∧ 0 < N then (2 : Int) else 0) = 0 by simp [hN]]
        clear hN
        go_enter Tryd.func45, Tryd.ntmps45
        go_wp2_with (first | (go_at_call 41; refine (HC.out _).mono ?_; rintro e w' ⟨rfl, rfl⟩) | (go_at_call 64; refine (HV.out _ (L.below hE (new1 _ _))).mono ?_; rintro e w1 ⟨rfl, hb1⟩; have hloc := blk_below (heap_alloc_new w (.cells #[.int .i64 5, .string t, .int .i64 n, .int .i64 m, .bool f] 77)) hb1; have l0 : w1.cell? ⟨w.heap.size, 0, none⟩ = some (.int .i64 5) := blk_cell hloc 0; have HB1 := Lib.hid (chain (new1 _ _) hb1); clear hb1 hloc))
        go_ret
        exact ⟨rfl, HB1.out⟩
      · have hN' : ¬ (0 : Int) < (N : Int) := by omega
        rw [if_neg (by decide), show (if ((5 : Int) = 2 ∨ (5 : Int) = 3) ∧ 0 < N then (2 : Int) else 0) = 0 by simp [hN]]
        clear hN
        go_enter Tryd.func45, Tryd.ntmps45
        go_wp2_with (first | (go_at_call 41; refine (HC.out _).mono ?_; rintro e w' ⟨rfl, rfl⟩) | (go_at_call 64; refine (HV.out _ (L.below hE (new1 _ _))).mono ?_; rintro e w1 ⟨rfl, hb1⟩; have hloc := blk_below (heap_alloc_new w (.cells #[.int .i64 5, .string t, .int .i64 n, .int .i64 m, .bool f] 77)) hb1; have l0 : w1.cell? ⟨w.heap.size, 0, none⟩ = some (.int .i64 5) := blk_cell hloc 0; have HB1 := Lib.hid (chain (new1 _ _) hb1); clear hb1 hloc))
        go_ret
        exact ⟨rfl, HB1.out⟩

theorem single_any {E : World → Prop} (L : LibC E) (x : Op) (w : World) (hE : E w) (ht : x.text.size < 4294967281) :
    Calls Tryd.prog 45 #[.agg #[.int .i64 x.kind, .string x.text, .int .i64 x.n, .int .i64 x.m, .bool x.flag]] w fun e w' => e = .returned (.int .i64 (checkOne x)) ∧ Below w.heap.size w w' := by
  unfold checkOne
  split
  · rename_i h
    exact single_bad x.kind x.text x.n x.m x.flag w h
  · rename_i h
    have e : (if (x.kind = 2 ∨ x.kind = 3) ∧ nlB x.text = true then (2 : Int) else 0) = if (x.kind = 2 ∨ x.kind = 3) ∧ 0 < lfs x.text then 2 else 0 := by simp only [lfs_pos]
    rw [e]
    exact single_good L x.kind x.text x.n x.m x.flag w hE ht h
end Go.Proofs.YtljgpcaljedhpaaDoor
