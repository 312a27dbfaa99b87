/- The reference's feeds, walked. -/
import Derived.Test.YtljgpcaljedhpaaDoorR3
import Derived.Test.YtljgpcaljedhpaaDoorQ2
import Derived.Test.YtljgpcaljedhpaaDoorLib
namespace Go.Proofs.YtljgpcaljedhpaaDoor
open Go.RowKit

theorem feedW_le : ∀ (l : List UInt8) (w : Nat), feedW l w ≤ w + l.length
  | [], w => Nat.le_refl _
  | b :: r, w => by
    unfold feedW
    have h1 := feedW_le r 0
    have h2 := feedW_le r (if startB b = true then w + 1 else w)
    rw [List.length_cons]
    split
    · omega
    · split at h2 <;> simp_all <;> omega

set_option maxRecDepth 100000 in
set_option maxHeartbeats 1000000 in
theorem feeds_any (s : ByteArray) (hs : s.size ≤ 4611686018427387904) (w : World) :
    Calls Tryd.prog 41 #[.string s] w fun e w' => e = .returned (.tuple #[.int .i64 (Lib.countByte s.data.toList 10), .int .i64 (feedW s.data.toList 0)]) ∧ w' = w := by
  have hl := data_len s
  obtain ⟨R, hR⟩ : ∃ R, feedW s.data.toList 0 = R := ⟨_, rfl⟩
  obtain ⟨C, hC⟩ : ∃ C, Lib.countByte s.data.toList 10 = C := ⟨_, rfl⟩
  rw [hR, hC]
  have HR := Lib.hid hR
  have HC : Hid (0 + Lib.countByte (s.data.toList.drop 0) 10 = C) := Lib.hid (by rw [← hC]; simp)
  have HL := Lib.hid hl
  clear hR hC hl
  go_enter Tryd.func41, Tryd.ntmps41
  go_wp2_with fail
  go_loopw [4, 5, 6] (fun v4 v5 v6 w' => ∃ (j a b : Nat), v6 = .int .i64 j ∧ v4 = .int .i64 a ∧ v5 = .int .i64 b ∧ j ≤ s.size ∧ a ≤ j ∧ b ≤ j ∧ Hid (feedW (s.data.toList.drop j) b = R) ∧ Hid (a + Lib.countByte (s.data.toList.drop j) 10 = C) ∧ w' = w) (fun _ _ v6 _ => s.size - (intOf v6).toNat)
  case atStart => exact ⟨0, 0, 0, rfl, rfl, rfl, Nat.zero_le _, Nat.le_refl _, Nat.le_refl _, HR, HC, rfl⟩
  case round =>
    obtain ⟨j, a, b, rfl, rfl, rfl, hj, ha, hb, HF, HG, rfl⟩ := hrel
    by_cases hlt : j < s.size
    · have hlt' : j < s.data.toList.length := by rw [HL.out]; exact hlt
      obtain ⟨c, hc⟩ : ∃ c, s[j]'hlt = c := ⟨_, rfl⟩
      have hdr : s.data.toList.drop j = c :: s.data.toList.drop (j + 1) := by
        rw [List.drop_eq_getElem_cons hlt', ← hc]; rfl
      have hF := HF.out
      have hG := HG.out
      rw [hdr] at hF hG
      unfold feedW at hF
      unfold Lib.countByte at hG
      rw [List.count_cons] at hG
      clear hdr HF HG hlt'
      have c0 : (0 : Int) ≤ (c.toNat : Int) := Int.natCast_nonneg _
      have c1 : (c.toNat : Int) < 256 := by have := c.toNat_lt; omega
      by_cases h10 : c = 10
      · rw [if_pos h10] at hF
        rw [if_pos (by simp [h10])] at hG
        subst h10
        have HF : Hid (feedW (s.data.toList.drop (j + 1)) 0 = R) := hF
        have HG : Hid (a + 1 + Lib.countByte (s.data.toList.drop (j + 1)) 10 = C) := Lib.hid (by rw [← hG]; unfold Lib.countByte; omega)
        clear hF hG
        go_wp2_with fail
        go_roundw
        case rel => exact ⟨j + 1, a + 1, 0, by go_num, by go_num, rfl, by omega, by omega, by omega, HF, HG, trivial⟩
        case measure => (first | omega | (simp [intOf]; omega))
      · rw [if_neg h10] at hF
        rw [if_neg (by simpa using h10)] at hG
        have hne : ((c.toNat : Int) == 10) = false := by
          rw [beq_eq_false_iff_ne]
          intro e
          exact h10 (UInt8.toNat_inj.1 (show c.toNat = 10 by omega))
        have HG : Hid (a + Lib.countByte (s.data.toList.drop (j + 1)) 10 = C) := hG
        have HF := Lib.hid hF
        clear hF hG h10
        have hst := Tryd.utf8_RuneStart (c.toNat : Int) wr c0 c1
        change Calls Tryd.prog 59 #[.int .u8 c.toNat] wr (fun e w' => e = .returned (.bool (startB c)) ∧ w' = wr) at hst
        cases hs : startB c
        · rw [hs] at hst HF
          have HF : Hid (feedW (s.data.toList.drop (j + 1)) b = R) := HF
          have HST := Lib.hid hst
          clear hst
          go_wp2_with (go_at_call 59; refine HST.out.mono ?_; rintro e w' ⟨rfl, rfl⟩)
          go_roundw
          case rel => exact ⟨j + 1, a, b, by go_num, rfl, rfl, by omega, by omega, by omega, HF, HG, trivial⟩
          case measure => (first | omega | (simp [intOf]; omega))
        · rw [hs] at hst HF
          have HF : Hid (feedW (s.data.toList.drop (j + 1)) (b + 1) = R) := HF
          have HST := Lib.hid hst
          clear hst
          go_wp2_with (go_at_call 59; refine HST.out.mono ?_; rintro e w' ⟨rfl, rfl⟩)
          go_roundw
          case rel => exact ⟨j + 1, a, b + 1, by go_num, rfl, by go_num, by omega, by omega, by omega, HF, HG, trivial⟩
          case measure => (first | omega | (simp [intOf]; omega))
    · have hnil : s.data.toList.drop j = [] := List.drop_eq_nil_of_le (by rw [HL.out]; omega)
      have hF := HF.out
      have hG := HG.out
      rw [hnil] at hF hG
      have HA : Hid (b = R ∧ a = C) := Lib.hid ⟨hF, hG⟩
      clear hF hG HF HG hnil
      go_wp2_with fail
      go_ret2
      rw [← HA.out.1, ← HA.out.2]
      exact ⟨rfl, rfl⟩
end Go.Proofs.YtljgpcaljedhpaaDoor
