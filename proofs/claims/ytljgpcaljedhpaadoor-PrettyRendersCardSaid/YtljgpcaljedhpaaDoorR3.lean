/- The reference's spaces, walked. -/
/- The reference's tab, walked. -/
import Derived.Test.YtljgpcaljedhpaaDoorR1
namespace Go.Proofs.YtljgpcaljedhpaaDoor
open Go.RowKit

theorem spB_succ (k : Nat) : spB k ++ ⟨#[32]⟩ = spB (k + 1) := by
  have h : ∀ k, Lib.repeatL [32] k ++ [32] = Lib.repeatL [32] (k + 1) := fun k => by
    induction k with
    | zero => rfl
    | succ k ih => show [32] ++ (Lib.repeatL [32] k) ++ [32] = [32] ++ Lib.repeatL [32] (k + 1); rw [← ih]; rfl
  have e : (spB k ++ ⟨#[32]⟩).data.toList = (spB (k + 1)).data.toList := by
    rw [ByteArray.data_append, Array.toList_append]
    exact h k
  exact ByteArray.ext (Array.toList_inj.1 e)

set_option maxRecDepth 100000 in
set_option maxHeartbeats 1000000 in
theorem rspaces_any (n : Int) (hn : n ≤ 1000000) (w : World) : Calls Tryd.prog 39 #[.int .i64 n] w fun e w' => e = .returned (.string (spB n.toNat)) ∧ Below w.heap.size w w' := by
  go_enter Tryd.func39, Tryd.ntmps39
  go_wp2_with fail
  go_loopw [3, 4] (fun v3 v4 w' => ∃ (j : Nat), v4 = .int .i64 j ∧ v3 = .string (spB j) ∧ j ≤ n.toNat ∧ Hid (Below w.heap.size w w')) (fun _ v4 _ => n.toNat - (intOf v4).toNat)
  case atStart => exact ⟨0, rfl, rfl, Nat.zero_le _, Lib.hid (Below.refl _ _)⟩
  case round =>
    obtain ⟨j, rfl, rfl, hj, HBE⟩ := hrel
    by_cases hlt : (j : Int) < n
    · have hszz := spB_size j
      have hadd := fun W => run_string_add_sum (P := Tryd.prog) W (spB j) ⟨#[32]⟩ (by rw [hszz]; show j + 1 ≤ _; omega)
      rw [spB_succ] at hadd
      have ew : IntKind.i64.wrap ((j : Int) + 1) = (j : Int) + 1 := IntWalk.i64_in _ (by omega)
      clear hszz
      go_wp2_with fail
      go_roundw
      case rel => exact ⟨j + 1, by go_num, rfl, by omega, HBE⟩
      case measure => (first | omega | (simp [intOf]; omega))
    · have HJ := Lib.hid (show j = n.toNat by omega)
      go_wp2_with fail
      go_ret
      rw [← HJ.out]
      exact ⟨rfl, HBE.out⟩
end Go.Proofs.YtljgpcaljedhpaaDoor
namespace Go.Proofs.YtljgpcaljedhpaaDoor
open Go.RowKit
set_option maxRecDepth 100000 in
set_option maxHeartbeats 1000000 in
theorem rtab_any (x : Op) (c : Int) (w : World) (h0 : 0 ≤ c) (h1 : c ≤ 1000000) (n0 : 0 ≤ x.n) (n1 : x.n ≤ 100) (m0 : 0 ≤ x.m) (m1 : x.m ≤ 100) :
    Calls Tryd.prog 40 #[.agg #[.int .i64 x.kind, .string x.text, .int .i64 x.n, .int .i64 x.m, .bool x.flag], .int .i64 c] w fun e w' => e = .returned (.int .i64 (spacesP x c)) ∧ Below w.heap.size w w' := by
  obtain ⟨k, t, n, m, f⟩ := x
  simp only at *
  obtain ⟨R, hR⟩ : ∃ R, spacesP ⟨k, t, n, m, f⟩ c = R := ⟨_, rfl⟩
  rw [hR]
  unfold spacesP at hR
  simp only at hR
  have HR := Lib.hid hR
  clear hR
  cases f with
  | true =>
    by_cases hm : m = 0
    · subst hm
      go_enter Tryd.func40, Tryd.ntmps40
      go_wp2_with fail
      go_ret
      have hR := HR.out
      simp at hR
      rw [← hR]
      exact ⟨by simp, new1 _ _⟩
    · have e1 : IntKind.i64.wrap (c + n) = c + n := IntWalk.i64_in _ (by omega)
      go_enter Tryd.func40, Tryd.ntmps40
      go_wp2_with fail
      obtain ⟨Z, hZ⟩ : ∃ Z, w.alloc (.cells #[.int .i64 k, .string t, .int .i64 n, .int .i64 m, .bool true] 77) = Z := ⟨_, rfl⟩
      have hzb : Below w.heap.size w Z := by rw [← hZ]; exact new1 _ _
      have z3 : Z.cell? ⟨w.heap.size, 3, none⟩ = some (.int .i64 m) := by rw [← hZ]; exact blk_cell (heap_alloc_new w _) 3
      rw [hZ]
      have HZB := Lib.hid hzb
      have HP := Lib.hid (Int.emod_nonneg (c + n) hm)
      have HQ := Lib.hid (Int.emod_lt_of_pos (c + n) (show 0 < m by omega))
      clear hZ hzb e1
      go_loopw [5] (fun v5 w' => ∃ (d : Nat), v5 = .int .i64 (c + n + d) ∧ w' = Z ∧ Hid ((c + n) % m + d ≤ m ∧ ((c + n) % m = 0 → d = 0))) (fun v5 _ => (c + n + m + 1 - intOf v5).toNat)
      case atStart => exact ⟨0, by simp, rfl, Lib.hid ⟨by have := HQ.out; omega, fun _ => rfl⟩⟩
      case round =>
        obtain ⟨d, rfl, rfl, HD⟩ := hrel
        have hd := HD.out
        have hp := HP.out
        have hq := HQ.out
        have hmod : (c + n + (d : Int)) % m = ((c + n) % m + (d : Int)) % m := (Int.emod_add_emod _ _ _).symm
        have ht : (c + n + (d : Int)).tmod m = (c + n + (d : Int)) % m := Int.tmod_eq_emod_of_nonneg (by omega)
        by_cases hlt : (c + n) % m + (d : Int) < m ∧ 0 < (c + n) % m
        · have hne : ¬ (c + n + (d : Int)) % m = 0 := by rw [hmod, Int.emod_eq_of_lt (by omega) hlt.1]; omega
          have ew : IntKind.i64.wrap (c + n + (d : Int) + 1) = c + n + (d : Int) + 1 := IntWalk.i64_in _ (by omega)
          clear hmod hd hp hq
          go_wp2_with fail
          go_roundw
          case rel => exact ⟨d + 1, by push_cast; rw [Int.add_assoc (c + n)], trivial, Lib.hid ⟨by push_cast; omega, fun e => by omega⟩⟩
          case measure => (first | omega | (simp [intOf]; omega))
        · have hz : (c + n + (d : Int)) % m = 0 := by
            rw [hmod]
            by_cases hr : (c + n) % m = 0
            · rw [hr, hd.2 hr]; simp
            · rw [show (c + n) % m + (d : Int) = m by omega]; exact Int.emod_self
          have hval : c + n + (d : Int) - c = if (c + n) % m = 0 then n else n + m - (c + n) % m := by
            split
            · rename_i hr; rw [hd.2 hr]; simp; omega
            · omega
          have ew : IntKind.i64.wrap (c + n + (d : Int) - c) = c + n + (d : Int) - c := IntWalk.i64_in _ (by omega)
          have HV := Lib.hid hval
          clear hmod hd hp hq hval hlt
          go_wp2_with fail
          go_ret
          have hR := HR.out
          rw [if_pos trivial, if_neg hm, ← HV.out] at hR
          rw [← hR]
          exact ⟨rfl, HZB.out⟩
  | false =>
    have e1 : IntKind.i64.wrap (n - c) = n - c := IntWalk.i64_in _ (by omega)
    have e2 : IntKind.i64.wrap (c - n) = c - n := IntWalk.i64_in _ (by omega)
    by_cases hc : c < n
    · go_enter Tryd.func40, Tryd.ntmps40
      go_wp2_with fail
      go_ret
      have hR := HR.out
      simp [hc] at hR
      rw [← hR]
      exact ⟨by simp, new1 _ _⟩
    · by_cases hm : m = 0
      · subst hm
        go_enter Tryd.func40, Tryd.ntmps40
        go_wp2_with fail
        go_ret
        have hR := HR.out
        simp at hR
        rw [if_neg (by omega)] at hR
        rw [← hR]
        exact ⟨by simp, new1 _ _⟩
      · have hp := Int.emod_nonneg (c - n) hm
        have hq := Int.emod_lt_of_pos (c - n) (show 0 < m by omega)
        have ht : (c - n).tmod m = (c - n) % m := Int.tmod_eq_emod_of_nonneg (by omega)
        have e3 : IntKind.i64.wrap (m - (c - n) % m) = m - (c - n) % m := IntWalk.i64_in _ (by omega)
        go_enter Tryd.func40, Tryd.ntmps40
        go_wp2_with fail
        go_region
        go_wp2_with fail
        go_ret
        have hR := HR.out
        simp [hm] at hR
        rw [if_neg (by omega)] at hR
        rw [← hR]
        exact ⟨by simp, below_drew (new1 _ _)⟩
end Go.Proofs.YtljgpcaljedhpaaDoor
