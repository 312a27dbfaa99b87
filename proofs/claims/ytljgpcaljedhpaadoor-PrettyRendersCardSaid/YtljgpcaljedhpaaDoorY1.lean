/- made, walked. -/
import Derived.Test.YtljgpcaljedhpaaDoorY0
namespace Go.Proofs.YtljgpcaljedhpaaDoor
open Go.RowKit

/-- What made returns. -/
def MadeSays (l : List (Nat × Nat)) (w : World) (e : Ending) (w' : World) : Prop :=
  ∃ v, e = .returned v ∧ w'.ownsRow w.heap.size 26 5 v (madeGo l 0).length (opsC (madeGo l 0)) ∧ Below w.heap.size w w'

theorem madeGo_cons (x : Nat × Nat) (r : List (Nat × Nat)) (d : Nat) : madeGo (x :: r) d = (madeOne x.1 x.2 d).1 ++ madeGo r (madeOne x.1 x.2 d).2 := rfl

theorem ops_push {w wr wa w5 : World} {v v5 : Value} {done xs : List Op} (hbe : Below w.heap.size w wr) (ha : Below wr.heap.size wr wa) (hr : wr.ownsRow w.heap.size 26 5 v done.length (opsC done))
    (hown : w5.ownsRow w.heap.size 26 5 v5 (done.length + xs.length) (opsC done ++ opsC xs)) (hg : wa.grownBy w5 v.ownBlock) :
    w5.ownsRow w.heap.size 26 5 v5 (done ++ xs).length (opsC (done ++ xs)) ∧ Below w.heap.size w w5 := by
  have hba := hbe.trans (ha.mono hbe.size)
  refine ⟨by rw [List.length_append, opsC_append]; exact hown, hba.grown hg hba.size (fun k hk => ((own_below hr ha).lt k hk).1)⟩

set_option linter.unusedSimpArgs false in
set_option maxRecDepth 100000 in
set_option maxHeartbeats 8000000 in
theorem made_any (A : Option Addr) (l : List (Nat × Nat)) (cap : Nat) (w : World) (hin : PairsIn w A l) (hb : ∀ x ∈ l, x.1 < 256 ∧ x.2 < 256) (hl : l.length ≤ 60) (hcap : l.length ≤ cap) :
    Calls Tryd.prog 11 #[.slice A l.length cap] w fun e w' => MadeSays l w e w' := by
  obtain ⟨t26, ti0, ti1, ti2, ti3⟩ := info_parts info26
  have T0 := Lib.hid ti0
  have T1 := Lib.hid ti1
  have T2 := Lib.hid ti2
  have T3 := Lib.hid ti3
  have HI := Lib.hid hin
  have HB := Lib.hid hb
  clear ti0 ti1 ti2 ti3 hin hb
  go_enter Tryd.func11, Tryd.ntmps11
  go_wp2_with fail
  have hst : w.ownsRow w.heap.size 26 5 (.slice none 0 0) 0 (opsC []) := World.ownsRow_nil _ _ _ _
  have HST := Lib.hid hst
  clear hst
  go_loopw [3, 4, 10] (fun v3 v4 v10 w' => ∃ (j d : Nat) (done : List Op), v10 = .int .i64 j ∧ v4 = .int .i64 d ∧ j ≤ l.length ∧ d ≤ j ∧ done.length ≤ 2 * j ∧ Hid (madeGo l 0 = done ++ madeGo (l.drop j) d) ∧ Hid (w'.ownsRow w.heap.size 26 5 v3 done.length (opsC done)) ∧ Hid (Below w.heap.size w w')) (fun _ _ v10 _ => l.length - (intOf v10).toNat)
  case atStart => exact ⟨0, 0, [], rfl, rfl, by omega, by omega, by simp, Lib.hid rfl, HST, Lib.hid (Below.refl _ _)⟩
  case round =>
    obtain ⟨j, d, done, rfl, rfl, hj, hd, hdl, HM, HR, HBE⟩ := hrel
    by_cases hlt : j < l.length
    · obtain ⟨⟨a, b⟩, hx⟩ : ∃ x, l[j]? = some x := ⟨_, List.getElem?_eq_getElem hlt⟩
      have hdr : l.drop j = (a, b) :: l.drop (j + 1) := by
        rw [List.drop_eq_getElem_cons hlt]
        rw [List.getElem?_eq_getElem hlt] at hx
        injection hx with hx
        rw [hx]
      obtain ⟨ha, hbb⟩ := HB.out _ (List.mem_of_getElem? hx)
      simp only at ha hbb
      obtain ⟨ad, rfl, hp, _⟩ := HI.out.below HBE.out (by rintro rfl; simp at hlt)
      obtain ⟨a0, a1⟩ := hp j _ hx
      simp only at a0 a1
      have hM := HM.out
      rw [hdr, madeGo_cons] at hM
      clear HM
      have HM := Lib.hid hM
      have a' : (0 : Int) ≤ (a : Int) := Int.natCast_nonneg _
      have b' : (0 : Int) ≤ (b : Int) := Int.natCast_nonneg _
      have d' : (0 : Int) ≤ (d : Int) := Int.natCast_nonneg _
      clear hM hdr hx hp
      have h8 : a % 8 = 0 ∨ a % 8 = 1 ∨ a % 8 = 2 ∨ a % 8 = 3 ∨ a % 8 = 4 ∨ a % 8 = 5 ∨ a % 8 = 6 ∨ a % 8 = 7 := by omega
      rcases h8 with h8 | h8 | h8 | h8 | h8 | h8 | h8 | h8
      · have e8 : (a : Int) % 8 = 0 := by omega
        have h6 : b % 6 = 0 ∨ b % 6 = 1 ∨ b % 6 = 2 ∨ b % 6 = 3 ∨ b % 6 = 4 ∨ b % 6 = 5 := by omega
        rcases h6 with h6 | h6 | h6 | h6 | h6 | h6
        · have e6 : (b : Int) % 6 = 0 := by omega
          have hone : madeOne a b d = ([textO (text6 0)], d) := by simp [madeOne, h8, h6]
          have hM := HM.out
          rw [hone, ← List.append_assoc] at hM
          have HM := Lib.hid hM
          clear hM hone
          go_wp2_with (at_builtin; refine wpList_append_own _ rfl _ _ 27 rfl w.heap.size 26 t26 _ 5 48 Tryd.underlying27 T0.out T1.out T2.out T3.out rfl (by decide) u3 _ _ rfl (((HR.out.alloc _).alloc _).alloc _) _ 1 1 (opsC [textO (text6 0)]) rfl rfl ?c1 ?c2 ?c3 ?c4 ?c5 ?_)
          case c1 => exact fun _ _ h => h
          case c2 => intro u hu; simp [opsC, opC, textO, newlineO, openO, closeO, indentO, tabO] at hu; rcases hu with rfl | rfl | rfl | rfl | rfl | rfl | rfl | rfl | rfl | rfl <;> rfl
          case c3 => unfold maxLen; omega
          case c4 => omega
          case c5 => have := HBE.out.size; first | omega | (simp; omega)
          intro v5 w5 hown5 hgrow5 _
          obtain ⟨hr5, hb5⟩ := ops_push (xs := [textO (text6 0)]) HBE.out (chain (chain (new1 _ _) (new1 _ _)) (new1 _ _)) HR.out hown5 hgrow5
          have HR5 := Lib.hid hr5
          have HB5 := Lib.hid hb5
          clear hr5 hb5 hown5 hgrow5
          go_wp2_with fail
          go_roundw
          case rel => exact ⟨j + 1, d, done ++ [textO (text6 0)], by go_num, by go_num, by omega, by omega, by simp; omega, HM, HR5, HB5⟩
          case measure => (first | omega | (simp [intOf]; omega))
        · have e6 : (b : Int) % 6 = 1 := by omega
          have hone : madeOne a b d = ([textO (text6 1)], d) := by simp [madeOne, h8, h6]
          have hM := HM.out
          rw [hone, ← List.append_assoc] at hM
          have HM := Lib.hid hM
          clear hM hone
          go_wp2_with (at_builtin; refine wpList_append_own _ rfl _ _ 27 rfl w.heap.size 26 t26 _ 5 48 Tryd.underlying27 T0.out T1.out T2.out T3.out rfl (by decide) u3 _ _ rfl (((HR.out.alloc _).alloc _).alloc _) _ 1 1 (opsC [textO (text6 1)]) rfl rfl ?c1 ?c2 ?c3 ?c4 ?c5 ?_)
          case c1 => exact fun _ _ h => h
          case c2 => intro u hu; simp [opsC, opC, textO, newlineO, openO, closeO, indentO, tabO] at hu; rcases hu with rfl | rfl | rfl | rfl | rfl | rfl | rfl | rfl | rfl | rfl <;> rfl
          case c3 => unfold maxLen; omega
          case c4 => omega
          case c5 => have := HBE.out.size; first | omega | (simp; omega)
          intro v5 w5 hown5 hgrow5 _
          obtain ⟨hr5, hb5⟩ := ops_push (xs := [textO (text6 1)]) HBE.out (chain (chain (new1 _ _) (new1 _ _)) (new1 _ _)) HR.out hown5 hgrow5
          have HR5 := Lib.hid hr5
          have HB5 := Lib.hid hb5
          clear hr5 hb5 hown5 hgrow5
          go_wp2_with fail
          go_roundw
          case rel => exact ⟨j + 1, d, done ++ [textO (text6 1)], by go_num, by go_num, by omega, by omega, by simp; omega, HM, HR5, HB5⟩
          case measure => (first | omega | (simp [intOf]; omega))
        · have e6 : (b : Int) % 6 = 2 := by omega
          have hone : madeOne a b d = ([textO (text6 2)], d) := by simp [madeOne, h8, h6]
          have hM := HM.out
          rw [hone, ← List.append_assoc] at hM
          have HM := Lib.hid hM
          clear hM hone
          go_wp2_with (at_builtin; refine wpList_append_own _ rfl _ _ 27 rfl w.heap.size 26 t26 _ 5 48 Tryd.underlying27 T0.out T1.out T2.out T3.out rfl (by decide) u3 _ _ rfl (((HR.out.alloc _).alloc _).alloc _) _ 1 1 (opsC [textO (text6 2)]) rfl rfl ?c1 ?c2 ?c3 ?c4 ?c5 ?_)
          case c1 => exact fun _ _ h => h
          case c2 => intro u hu; simp [opsC, opC, textO, newlineO, openO, closeO, indentO, tabO] at hu; rcases hu with rfl | rfl | rfl | rfl | rfl | rfl | rfl | rfl | rfl | rfl <;> rfl
          case c3 => unfold maxLen; omega
          case c4 => omega
          case c5 => have := HBE.out.size; first | omega | (simp; omega)
          intro v5 w5 hown5 hgrow5 _
          obtain ⟨hr5, hb5⟩ := ops_push (xs := [textO (text6 2)]) HBE.out (chain (chain (new1 _ _) (new1 _ _)) (new1 _ _)) HR.out hown5 hgrow5
          have HR5 := Lib.hid hr5
          have HB5 := Lib.hid hb5
          clear hr5 hb5 hown5 hgrow5
          go_wp2_with fail
          go_roundw
          case rel => exact ⟨j + 1, d, done ++ [textO (text6 2)], by go_num, by go_num, by omega, by omega, by simp; omega, HM, HR5, HB5⟩
          case measure => (first | omega | (simp [intOf]; omega))
        · have e6 : (b : Int) % 6 = 3 := by omega
          have hone : madeOne a b d = ([textO (text6 3)], d) := by simp [madeOne, h8, h6]
          have hM := HM.out
          rw [hone, ← List.append_assoc] at hM
          have HM := Lib.hid hM
          clear hM hone
          go_wp2_with (at_builtin; refine wpList_append_own _ rfl _ _ 27 rfl w.heap.size 26 t26 _ 5 48 Tryd.underlying27 T0.out T1.out T2.out T3.out rfl (by decide) u3 _ _ rfl (((HR.out.alloc _).alloc _).alloc _) _ 1 1 (opsC [textO (text6 3)]) rfl rfl ?c1 ?c2 ?c3 ?c4 ?c5 ?_)
          case c1 => exact fun _ _ h => h
          case c2 => intro u hu; simp [opsC, opC, textO, newlineO, openO, closeO, indentO, tabO] at hu; rcases hu with rfl | rfl | rfl | rfl | rfl | rfl | rfl | rfl | rfl | rfl <;> rfl
          case c3 => unfold maxLen; omega
          case c4 => omega
          case c5 => have := HBE.out.size; first | omega | (simp; omega)
          intro v5 w5 hown5 hgrow5 _
          obtain ⟨hr5, hb5⟩ := ops_push (xs := [textO (text6 3)]) HBE.out (chain (chain (new1 _ _) (new1 _ _)) (new1 _ _)) HR.out hown5 hgrow5
          have HR5 := Lib.hid hr5
          have HB5 := Lib.hid hb5
          clear hr5 hb5 hown5 hgrow5
          go_wp2_with fail
          go_roundw
          case rel => exact ⟨j + 1, d, done ++ [textO (text6 3)], by go_num, by go_num, by omega, by omega, by simp; omega, HM, HR5, HB5⟩
          case measure => (first | omega | (simp [intOf]; omega))
        · have e6 : (b : Int) % 6 = 4 := by omega
          have hone : madeOne a b d = ([textO (text6 4)], d) := by simp [madeOne, h8, h6]
          have hM := HM.out
          rw [hone, ← List.append_assoc] at hM
          have HM := Lib.hid hM
          clear hM hone
          go_wp2_with (at_builtin; refine wpList_append_own _ rfl _ _ 27 rfl w.heap.size 26 t26 _ 5 48 Tryd.underlying27 T0.out T1.out T2.out T3.out rfl (by decide) u3 _ _ rfl (((HR.out.alloc _).alloc _).alloc _) _ 1 1 (opsC [textO (text6 4)]) rfl rfl ?c1 ?c2 ?c3 ?c4 ?c5 ?_)
          case c1 => exact fun _ _ h => h
          case c2 => intro u hu; simp [opsC, opC, textO, newlineO, openO, closeO, indentO, tabO] at hu; rcases hu with rfl | rfl | rfl | rfl | rfl | rfl | rfl | rfl | rfl | rfl <;> rfl
          case c3 => unfold maxLen; omega
          case c4 => omega
          case c5 => have := HBE.out.size; first | omega | (simp; omega)
          intro v5 w5 hown5 hgrow5 _
          obtain ⟨hr5, hb5⟩ := ops_push (xs := [textO (text6 4)]) HBE.out (chain (chain (new1 _ _) (new1 _ _)) (new1 _ _)) HR.out hown5 hgrow5
          have HR5 := Lib.hid hr5
          have HB5 := Lib.hid hb5
          clear hr5 hb5 hown5 hgrow5
          go_wp2_with fail
          go_roundw
          case rel => exact ⟨j + 1, d, done ++ [textO (text6 4)], by go_num, by go_num, by omega, by omega, by simp; omega, HM, HR5, HB5⟩
          case measure => (first | omega | (simp [intOf]; omega))
        · have e6 : (b : Int) % 6 = 5 := by omega
          have hone : madeOne a b d = ([textO (text6 5)], d) := by simp [madeOne, h8, h6]
          have hM := HM.out
          rw [hone, ← List.append_assoc] at hM
          have HM := Lib.hid hM
          clear hM hone
          go_wp2_with (at_builtin; refine wpList_append_own _ rfl _ _ 27 rfl w.heap.size 26 t26 _ 5 48 Tryd.underlying27 T0.out T1.out T2.out T3.out rfl (by decide) u3 _ _ rfl (((HR.out.alloc _).alloc _).alloc _) _ 1 1 (opsC [textO (text6 5)]) rfl rfl ?c1 ?c2 ?c3 ?c4 ?c5 ?_)
          case c1 => exact fun _ _ h => h
          case c2 => intro u hu; simp [opsC, opC, textO, newlineO, openO, closeO, indentO, tabO] at hu; rcases hu with rfl | rfl | rfl | rfl | rfl | rfl | rfl | rfl | rfl | rfl <;> rfl
          case c3 => unfold maxLen; omega
          case c4 => omega
          case c5 => have := HBE.out.size; first | omega | (simp; omega)
          intro v5 w5 hown5 hgrow5 _
          obtain ⟨hr5, hb5⟩ := ops_push (xs := [textO (text6 5)]) HBE.out (chain (chain (new1 _ _) (new1 _ _)) (new1 _ _)) HR.out hown5 hgrow5
          have HR5 := Lib.hid hr5
          have HB5 := Lib.hid hb5
          clear hr5 hb5 hown5 hgrow5
          go_wp2_with fail
          go_roundw
          case rel => exact ⟨j + 1, d, done ++ [textO (text6 5)], by go_num, by go_num, by omega, by omega, by simp; omega, HM, HR5, HB5⟩
          case measure => (first | omega | (simp [intOf]; omega))
      · have e8 : (a : Int) % 8 = 1 := by omega
        have h6 : b % 6 = 0 ∨ b % 6 = 1 ∨ b % 6 = 2 ∨ b % 6 = 3 ∨ b % 6 = 4 ∨ b % 6 = 5 := by omega
        rcases h6 with h6 | h6 | h6 | h6 | h6 | h6
        · have e6 : (b : Int) % 6 = 0 := by omega
          have hone : madeOne a b d = ([textO (text6 0)], d) := by simp [madeOne, h8, h6]
          have hM := HM.out
          rw [hone, ← List.append_assoc] at hM
          have HM := Lib.hid hM
          clear hM hone
          go_wp2_with (at_builtin; refine wpList_append_own _ rfl _ _ 27 rfl w.heap.size 26 t26 _ 5 48 Tryd.underlying27 T0.out T1.out T2.out T3.out rfl (by decide) u3 _ _ rfl (((HR.out.alloc _).alloc _).alloc _) _ 1 1 (opsC [textO (text6 0)]) rfl rfl ?c1 ?c2 ?c3 ?c4 ?c5 ?_)
          case c1 => exact fun _ _ h => h
          case c2 => intro u hu; simp [opsC, opC, textO, newlineO, openO, closeO, indentO, tabO] at hu; rcases hu with rfl | rfl | rfl | rfl | rfl | rfl | rfl | rfl | rfl | rfl <;> rfl
          case c3 => unfold maxLen; omega
          case c4 => omega
          case c5 => have := HBE.out.size; first | omega | (simp; omega)
          intro v5 w5 hown5 hgrow5 _
          obtain ⟨hr5, hb5⟩ := ops_push (xs := [textO (text6 0)]) HBE.out (chain (chain (new1 _ _) (new1 _ _)) (new1 _ _)) HR.out hown5 hgrow5
          have HR5 := Lib.hid hr5
          have HB5 := Lib.hid hb5
          clear hr5 hb5 hown5 hgrow5
          go_wp2_with fail
          go_roundw
          case rel => exact ⟨j + 1, d, done ++ [textO (text6 0)], by go_num, by go_num, by omega, by omega, by simp; omega, HM, HR5, HB5⟩
          case measure => (first | omega | (simp [intOf]; omega))
        · have e6 : (b : Int) % 6 = 1 := by omega
          have hone : madeOne a b d = ([textO (text6 1)], d) := by simp [madeOne, h8, h6]
          have hM := HM.out
          rw [hone, ← List.append_assoc] at hM
          have HM := Lib.hid hM
          clear hM hone
          go_wp2_with (at_builtin; refine wpList_append_own _ rfl _ _ 27 rfl w.heap.size 26 t26 _ 5 48 Tryd.underlying27 T0.out T1.out T2.out T3.out rfl (by decide) u3 _ _ rfl (((HR.out.alloc _).alloc _).alloc _) _ 1 1 (opsC [textO (text6 1)]) rfl rfl ?c1 ?c2 ?c3 ?c4 ?c5 ?_)
          case c1 => exact fun _ _ h => h
          case c2 => intro u hu; simp [opsC, opC, textO, newlineO, openO, closeO, indentO, tabO] at hu; rcases hu with rfl | rfl | rfl | rfl | rfl | rfl | rfl | rfl | rfl | rfl <;> rfl
          case c3 => unfold maxLen; omega
          case c4 => omega
          case c5 => have := HBE.out.size; first | omega | (simp; omega)
          intro v5 w5 hown5 hgrow5 _
          obtain ⟨hr5, hb5⟩ := ops_push (xs := [textO (text6 1)]) HBE.out (chain (chain (new1 _ _) (new1 _ _)) (new1 _ _)) HR.out hown5 hgrow5
          have HR5 := Lib.hid hr5
          have HB5 := Lib.hid hb5
          clear hr5 hb5 hown5 hgrow5
          go_wp2_with fail
          go_roundw
          case rel => exact ⟨j + 1, d, done ++ [textO (text6 1)], by go_num, by go_num, by omega, by omega, by simp; omega, HM, HR5, HB5⟩
          case measure => (first | omega | (simp [intOf]; omega))
        · have e6 : (b : Int) % 6 = 2 := by omega
          have hone : madeOne a b d = ([textO (text6 2)], d) := by simp [madeOne, h8, h6]
          have hM := HM.out
          rw [hone, ← List.append_assoc] at hM
          have HM := Lib.hid hM
          clear hM hone
          go_wp2_with (at_builtin; refine wpList_append_own _ rfl _ _ 27 rfl w.heap.size 26 t26 _ 5 48 Tryd.underlying27 T0.out T1.out T2.out T3.out rfl (by decide) u3 _ _ rfl (((HR.out.alloc _).alloc _).alloc _) _ 1 1 (opsC [textO (text6 2)]) rfl rfl ?c1 ?c2 ?c3 ?c4 ?c5 ?_)
          case c1 => exact fun _ _ h => h
          case c2 => intro u hu; simp [opsC, opC, textO, newlineO, openO, closeO, indentO, tabO] at hu; rcases hu with rfl | rfl | rfl | rfl | rfl | rfl | rfl | rfl | rfl | rfl <;> rfl
          case c3 => unfold maxLen; omega
          case c4 => omega
          case c5 => have := HBE.out.size; first | omega | (simp; omega)
          intro v5 w5 hown5 hgrow5 _
          obtain ⟨hr5, hb5⟩ := ops_push (xs := [textO (text6 2)]) HBE.out (chain (chain (new1 _ _) (new1 _ _)) (new1 _ _)) HR.out hown5 hgrow5
          have HR5 := Lib.hid hr5
          have HB5 := Lib.hid hb5
          clear hr5 hb5 hown5 hgrow5
          go_wp2_with fail
          go_roundw
          case rel => exact ⟨j + 1, d, done ++ [textO (text6 2)], by go_num, by go_num, by omega, by omega, by simp; omega, HM, HR5, HB5⟩
          case measure => (first | omega | (simp [intOf]; omega))
        · have e6 : (b : Int) % 6 = 3 := by omega
          have hone : madeOne a b d = ([textO (text6 3)], d) := by simp [madeOne, h8, h6]
          have hM := HM.out
          rw [hone, ← List.append_assoc] at hM
          have HM := Lib.hid hM
          clear hM hone
          go_wp2_with (at_builtin; refine wpList_append_own _ rfl _ _ 27 rfl w.heap.size 26 t26 _ 5 48 Tryd.underlying27 T0.out T1.out T2.out T3.out rfl (by decide) u3 _ _ rfl (((HR.out.alloc _).alloc _).alloc _) _ 1 1 (opsC [textO (text6 3)]) rfl rfl ?c1 ?c2 ?c3 ?c4 ?c5 ?_)
          case c1 => exact fun _ _ h => h
          case c2 => intro u hu; simp [opsC, opC, textO, newlineO, openO, closeO, indentO, tabO] at hu; rcases hu with rfl | rfl | rfl | rfl | rfl | rfl | rfl | rfl | rfl | rfl <;> rfl
          case c3 => unfold maxLen; omega
          case c4 => omega
          case c5 => have := HBE.out.size; first | omega | (simp; omega)
          intro v5 w5 hown5 hgrow5 _
          obtain ⟨hr5, hb5⟩ := ops_push (xs := [textO (text6 3)]) HBE.out (chain (chain (new1 _ _) (new1 _ _)) (new1 _ _)) HR.out hown5 hgrow5
          have HR5 := Lib.hid hr5
          have HB5 := Lib.hid hb5
          clear hr5 hb5 hown5 hgrow5
          go_wp2_with fail
          go_roundw
          case rel => exact ⟨j + 1, d, done ++ [textO (text6 3)], by go_num, by go_num, by omega, by omega, by simp; omega, HM, HR5, HB5⟩
          case measure => (first | omega | (simp [intOf]; omega))
        · have e6 : (b : Int) % 6 = 4 := by omega
          have hone : madeOne a b d = ([textO (text6 4)], d) := by simp [madeOne, h8, h6]
          have hM := HM.out
          rw [hone, ← List.append_assoc] at hM
          have HM := Lib.hid hM
          clear hM hone
          go_wp2_with (at_builtin; refine wpList_append_own _ rfl _ _ 27 rfl w.heap.size 26 t26 _ 5 48 Tryd.underlying27 T0.out T1.out T2.out T3.out rfl (by decide) u3 _ _ rfl (((HR.out.alloc _).alloc _).alloc _) _ 1 1 (opsC [textO (text6 4)]) rfl rfl ?c1 ?c2 ?c3 ?c4 ?c5 ?_)
          case c1 => exact fun _ _ h => h
          case c2 => intro u hu; simp [opsC, opC, textO, newlineO, openO, closeO, indentO, tabO] at hu; rcases hu with rfl | rfl | rfl | rfl | rfl | rfl | rfl | rfl | rfl | rfl <;> rfl
          case c3 => unfold maxLen; omega
          case c4 => omega
          case c5 => have := HBE.out.size; first | omega | (simp; omega)
          intro v5 w5 hown5 hgrow5 _
          obtain ⟨hr5, hb5⟩ := ops_push (xs := [textO (text6 4)]) HBE.out (chain (chain (new1 _ _) (new1 _ _)) (new1 _ _)) HR.out hown5 hgrow5
          have HR5 := Lib.hid hr5
          have HB5 := Lib.hid hb5
          clear hr5 hb5 hown5 hgrow5
          go_wp2_with fail
          go_roundw
          case rel => exact ⟨j + 1, d, done ++ [textO (text6 4)], by go_num, by go_num, by omega, by omega, by simp; omega, HM, HR5, HB5⟩
          case measure => (first | omega | (simp [intOf]; omega))
        · have e6 : (b : Int) % 6 = 5 := by omega
          have hone : madeOne a b d = ([textO (text6 5)], d) := by simp [madeOne, h8, h6]
          have hM := HM.out
          rw [hone, ← List.append_assoc] at hM
          have HM := Lib.hid hM
          clear hM hone
          go_wp2_with (at_builtin; refine wpList_append_own _ rfl _ _ 27 rfl w.heap.size 26 t26 _ 5 48 Tryd.underlying27 T0.out T1.out T2.out T3.out rfl (by decide) u3 _ _ rfl (((HR.out.alloc _).alloc _).alloc _) _ 1 1 (opsC [textO (text6 5)]) rfl rfl ?c1 ?c2 ?c3 ?c4 ?c5 ?_)
          case c1 => exact fun _ _ h => h
          case c2 => intro u hu; simp [opsC, opC, textO, newlineO, openO, closeO, indentO, tabO] at hu; rcases hu with rfl | rfl | rfl | rfl | rfl | rfl | rfl | rfl | rfl | rfl <;> rfl
          case c3 => unfold maxLen; omega
          case c4 => omega
          case c5 => have := HBE.out.size; first | omega | (simp; omega)
          intro v5 w5 hown5 hgrow5 _
          obtain ⟨hr5, hb5⟩ := ops_push (xs := [textO (text6 5)]) HBE.out (chain (chain (new1 _ _) (new1 _ _)) (new1 _ _)) HR.out hown5 hgrow5
          have HR5 := Lib.hid hr5
          have HB5 := Lib.hid hb5
          clear hr5 hb5 hown5 hgrow5
          go_wp2_with fail
          go_roundw
          case rel => exact ⟨j + 1, d, done ++ [textO (text6 5)], by go_num, by go_num, by omega, by omega, by simp; omega, HM, HR5, HB5⟩
          case measure => (first | omega | (simp [intOf]; omega))
      · have e8 : (a : Int) % 8 = 2 := by omega
        have hone : madeOne a b d = ([textO ⟨#[32]⟩, newlineO ((b % 3 : Nat) : Int)], d) := by simp [madeOne, h8]
        have hM := HM.out
        rw [hone, ← List.append_assoc] at hM
        have HM := Lib.hid hM
        clear hM hone
        go_wp2_with (at_builtin; refine wpList_append_own _ rfl _ _ 27 rfl w.heap.size 26 t26 _ 5 48 Tryd.underlying27 T0.out T1.out T2.out T3.out rfl (by decide) u3 _ _ rfl ((HR.out.alloc _).alloc _) _ 2 2 (opsC [textO ⟨#[32]⟩, newlineO ((b % 3 : Nat) : Int)]) rfl rfl ?c1 ?c2 ?c3 ?c4 ?c5 ?_)
        case c1 => exact fun _ _ h => h
        case c2 => intro u hu; simp [opsC, opC, textO, newlineO, openO, closeO, indentO, tabO] at hu; rcases hu with rfl | rfl | rfl | rfl | rfl | rfl | rfl | rfl | rfl | rfl <;> rfl
        case c3 => unfold maxLen; omega
        case c4 => omega
        case c5 => have := HBE.out.size; first | omega | (simp; omega)
        intro v5 w5 hown5 hgrow5 _
        obtain ⟨hr5, hb5⟩ := ops_push (xs := [textO ⟨#[32]⟩, newlineO ((b % 3 : Nat) : Int)]) HBE.out (chain (new1 _ _) (new1 _ _)) HR.out hown5 hgrow5
        have HR5 := Lib.hid hr5
        have HB5 := Lib.hid hb5
        clear hr5 hb5 hown5 hgrow5
        go_wp2_with fail
        go_roundw
        case rel => exact ⟨j + 1, d, done ++ [textO ⟨#[32]⟩, newlineO ((b % 3 : Nat) : Int)], by go_num, by go_num, by omega, by omega, by simp; omega, HM, HR5, HB5⟩
        case measure => (first | omega | (simp [intOf]; omega))
      · have e8 : (a : Int) % 8 = 3 := by omega
        have hone : madeOne a b d = ([textO ⟨#[32]⟩, newlineO ((b % 3 : Nat) : Int)], d) := by simp [madeOne, h8]
        have hM := HM.out
        rw [hone, ← List.append_assoc] at hM
        have HM := Lib.hid hM
        clear hM hone
        go_wp2_with (at_builtin; refine wpList_append_own _ rfl _ _ 27 rfl w.heap.size 26 t26 _ 5 48 Tryd.underlying27 T0.out T1.out T2.out T3.out rfl (by decide) u3 _ _ rfl ((HR.out.alloc _).alloc _) _ 2 2 (opsC [textO ⟨#[32]⟩, newlineO ((b % 3 : Nat) : Int)]) rfl rfl ?c1 ?c2 ?c3 ?c4 ?c5 ?_)
        case c1 => exact fun _ _ h => h
        case c2 => intro u hu; simp [opsC, opC, textO, newlineO, openO, closeO, indentO, tabO] at hu; rcases hu with rfl | rfl | rfl | rfl | rfl | rfl | rfl | rfl | rfl | rfl <;> rfl
        case c3 => unfold maxLen; omega
        case c4 => omega
        case c5 => have := HBE.out.size; first | omega | (simp; omega)
        intro v5 w5 hown5 hgrow5 _
        obtain ⟨hr5, hb5⟩ := ops_push (xs := [textO ⟨#[32]⟩, newlineO ((b % 3 : Nat) : Int)]) HBE.out (chain (new1 _ _) (new1 _ _)) HR.out hown5 hgrow5
        have HR5 := Lib.hid hr5
        have HB5 := Lib.hid hb5
        clear hr5 hb5 hown5 hgrow5
        go_wp2_with fail
        go_roundw
        case rel => exact ⟨j + 1, d, done ++ [textO ⟨#[32]⟩, newlineO ((b % 3 : Nat) : Int)], by go_num, by go_num, by omega, by omega, by simp; omega, HM, HR5, HB5⟩
        case measure => (first | omega | (simp [intOf]; omega))
      · have e8 : (a : Int) % 8 = 4 := by omega
        have h6 : b % 3 = 0 ∨ b % 3 = 1 ∨ b % 3 = 2 := by omega
        rcases h6 with h6 | h6 | h6
        · have e6 : (b : Int) % 3 = 0 := by omega
          have hone : madeOne a b d = ([openO (openT 0)], d + 1) := by simp [madeOne, h8, h6]
          have hM := HM.out
          rw [hone, ← List.append_assoc] at hM
          have HM := Lib.hid hM
          clear hM hone
          go_wp2_with (at_builtin; refine wpList_append_own _ rfl _ _ 27 rfl w.heap.size 26 t26 _ 5 48 Tryd.underlying27 T0.out T1.out T2.out T3.out rfl (by decide) u3 _ _ rfl (((HR.out.alloc _).alloc _).alloc _) _ 1 1 (opsC [openO (openT 0)]) rfl rfl ?c1 ?c2 ?c3 ?c4 ?c5 ?_)
          case c1 => exact fun _ _ h => h
          case c2 => intro u hu; simp [opsC, opC, textO, newlineO, openO, closeO, indentO, tabO] at hu; rcases hu with rfl | rfl | rfl | rfl | rfl | rfl | rfl | rfl | rfl | rfl <;> rfl
          case c3 => unfold maxLen; omega
          case c4 => omega
          case c5 => have := HBE.out.size; first | omega | (simp; omega)
          intro v5 w5 hown5 hgrow5 _
          obtain ⟨hr5, hb5⟩ := ops_push (xs := [openO (openT 0)]) HBE.out (chain (chain (new1 _ _) (new1 _ _)) (new1 _ _)) HR.out hown5 hgrow5
          have HR5 := Lib.hid hr5
          have HB5 := Lib.hid hb5
          clear hr5 hb5 hown5 hgrow5
          go_wp2_with fail
          go_roundw
          case rel => exact ⟨j + 1, d + 1, done ++ [openO (openT 0)], by go_num, by go_num, by omega, by omega, by simp; omega, HM, HR5, HB5⟩
          case measure => (first | omega | (simp [intOf]; omega))
        · have e6 : (b : Int) % 3 = 1 := by omega
          have hone : madeOne a b d = ([openO (openT 1)], d + 1) := by simp [madeOne, h8, h6]
          have hM := HM.out
          rw [hone, ← List.append_assoc] at hM
          have HM := Lib.hid hM
          clear hM hone
          go_wp2_with (at_builtin; refine wpList_append_own _ rfl _ _ 27 rfl w.heap.size 26 t26 _ 5 48 Tryd.underlying27 T0.out T1.out T2.out T3.out rfl (by decide) u3 _ _ rfl (((HR.out.alloc _).alloc _).alloc _) _ 1 1 (opsC [openO (openT 1)]) rfl rfl ?c1 ?c2 ?c3 ?c4 ?c5 ?_)
          case c1 => exact fun _ _ h => h
          case c2 => intro u hu; simp [opsC, opC, textO, newlineO, openO, closeO, indentO, tabO] at hu; rcases hu with rfl | rfl | rfl | rfl | rfl | rfl | rfl | rfl | rfl | rfl <;> rfl
          case c3 => unfold maxLen; omega
          case c4 => omega
          case c5 => have := HBE.out.size; first | omega | (simp; omega)
          intro v5 w5 hown5 hgrow5 _
          obtain ⟨hr5, hb5⟩ := ops_push (xs := [openO (openT 1)]) HBE.out (chain (chain (new1 _ _) (new1 _ _)) (new1 _ _)) HR.out hown5 hgrow5
          have HR5 := Lib.hid hr5
          have HB5 := Lib.hid hb5
          clear hr5 hb5 hown5 hgrow5
          go_wp2_with fail
          go_roundw
          case rel => exact ⟨j + 1, d + 1, done ++ [openO (openT 1)], by go_num, by go_num, by omega, by omega, by simp; omega, HM, HR5, HB5⟩
          case measure => (first | omega | (simp [intOf]; omega))
        · have e6 : (b : Int) % 3 = 2 := by omega
          have hone : madeOne a b d = ([openO (openT 2)], d + 1) := by simp [madeOne, h8, h6]
          have hM := HM.out
          rw [hone, ← List.append_assoc] at hM
          have HM := Lib.hid hM
          clear hM hone
          go_wp2_with (at_builtin; refine wpList_append_own _ rfl _ _ 27 rfl w.heap.size 26 t26 _ 5 48 Tryd.underlying27 T0.out T1.out T2.out T3.out rfl (by decide) u3 _ _ rfl (((HR.out.alloc _).alloc _).alloc _) _ 1 1 (opsC [openO (openT 2)]) rfl rfl ?c1 ?c2 ?c3 ?c4 ?c5 ?_)
          case c1 => exact fun _ _ h => h
          case c2 => intro u hu; simp [opsC, opC, textO, newlineO, openO, closeO, indentO, tabO] at hu; rcases hu with rfl | rfl | rfl | rfl | rfl | rfl | rfl | rfl | rfl | rfl <;> rfl
          case c3 => unfold maxLen; omega
          case c4 => omega
          case c5 => have := HBE.out.size; first | omega | (simp; omega)
          intro v5 w5 hown5 hgrow5 _
          obtain ⟨hr5, hb5⟩ := ops_push (xs := [openO (openT 2)]) HBE.out (chain (chain (new1 _ _) (new1 _ _)) (new1 _ _)) HR.out hown5 hgrow5
          have HR5 := Lib.hid hr5
          have HB5 := Lib.hid hb5
          clear hr5 hb5 hown5 hgrow5
          go_wp2_with fail
          go_roundw
          case rel => exact ⟨j + 1, d + 1, done ++ [openO (openT 2)], by go_num, by go_num, by omega, by omega, by simp; omega, HM, HR5, HB5⟩
          case measure => (first | omega | (simp [intOf]; omega))
      · have e8 : (a : Int) % 8 = 5 := by omega
        by_cases hd0 : d = 0
        · subst hd0
          have hone : madeOne a b 0 = ([], 0) := by simp [madeOne, h8]
          have hM := HM.out
          rw [hone, List.nil_append] at hM
          have HM := Lib.hid hM
          have HR5 := Lib.hid (own_below HR.out (new1 wr (.cells #[.int .u8 a, .int .u8 b] 72)))
          have HB5 := Lib.hid (HBE.out.trans ((new1 wr (.cells #[.int .u8 a, .int .u8 b] 72)).mono HBE.out.size))
          clear hM hone
          go_wp2_with fail
          go_roundw
          case rel => exact ⟨j + 1, 0, done, by go_num, rfl, by omega, by omega, by omega, HM, HR5, HB5⟩
          case measure => (first | omega | (simp [intOf]; omega))
        · have hd1 : (0 : Int) < (d : Int) := by omega
          have hd2 : 0 < d := by omega
          have h6 : b % 3 = 0 ∨ b % 3 = 1 ∨ b % 3 = 2 := by omega
          rcases h6 with h6 | h6 | h6
          · have e6 : (b : Int) % 3 = 0 := by omega
            have hone : madeOne a b d = ([closeO (closeT 0)], d - 1) := by simp [madeOne, h8, h6, hd2]
            have hM := HM.out
            rw [hone, ← List.append_assoc] at hM
            have HM := Lib.hid hM
            clear hM hone
            go_wp2_with (at_builtin; refine wpList_append_own _ rfl _ _ 27 rfl w.heap.size 26 t26 _ 5 48 Tryd.underlying27 T0.out T1.out T2.out T3.out rfl (by decide) u3 _ _ rfl (((HR.out.alloc _).alloc _).alloc _) _ 1 1 (opsC [closeO (closeT 0)]) rfl rfl ?c1 ?c2 ?c3 ?c4 ?c5 ?_)
            case c1 => exact fun _ _ h => h
            case c2 => intro u hu; simp [opsC, opC, textO, newlineO, openO, closeO, indentO, tabO] at hu; rcases hu with rfl | rfl | rfl | rfl | rfl | rfl | rfl | rfl | rfl | rfl <;> rfl
            case c3 => unfold maxLen; omega
            case c4 => omega
            case c5 => have := HBE.out.size; first | omega | (simp; omega)
            intro v5 w5 hown5 hgrow5 _
            obtain ⟨hr5, hb5⟩ := ops_push (xs := [closeO (closeT 0)]) HBE.out (chain (chain (new1 _ _) (new1 _ _)) (new1 _ _)) HR.out hown5 hgrow5
            have HR5 := Lib.hid hr5
            have HB5 := Lib.hid hb5
            clear hr5 hb5 hown5 hgrow5
            go_wp2_with fail
            go_roundw
            case rel => exact ⟨j + 1, d - 1, done ++ [closeO (closeT 0)], by go_num, by rw [show ((d - 1 : Nat) : Int) = (d : Int) - 1 from by omega], by omega, by omega, by simp; omega, HM, HR5, HB5⟩
            case measure => (first | omega | (simp [intOf]; omega))
          · have e6 : (b : Int) % 3 = 1 := by omega
            have hone : madeOne a b d = ([closeO (closeT 1)], d - 1) := by simp [madeOne, h8, h6, hd2]
            have hM := HM.out
            rw [hone, ← List.append_assoc] at hM
            have HM := Lib.hid hM
            clear hM hone
            go_wp2_with (at_builtin; refine wpList_append_own _ rfl _ _ 27 rfl w.heap.size 26 t26 _ 5 48 Tryd.underlying27 T0.out T1.out T2.out T3.out rfl (by decide) u3 _ _ rfl (((HR.out.alloc _).alloc _).alloc _) _ 1 1 (opsC [closeO (closeT 1)]) rfl rfl ?c1 ?c2 ?c3 ?c4 ?c5 ?_)
            case c1 => exact fun _ _ h => h
            case c2 => intro u hu; simp [opsC, opC, textO, newlineO, openO, closeO, indentO, tabO] at hu; rcases hu with rfl | rfl | rfl | rfl | rfl | rfl | rfl | rfl | rfl | rfl <;> rfl
            case c3 => unfold maxLen; omega
            case c4 => omega
            case c5 => have := HBE.out.size; first | omega | (simp; omega)
            intro v5 w5 hown5 hgrow5 _
            obtain ⟨hr5, hb5⟩ := ops_push (xs := [closeO (closeT 1)]) HBE.out (chain (chain (new1 _ _) (new1 _ _)) (new1 _ _)) HR.out hown5 hgrow5
            have HR5 := Lib.hid hr5
            have HB5 := Lib.hid hb5
            clear hr5 hb5 hown5 hgrow5
            go_wp2_with fail
            go_roundw
            case rel => exact ⟨j + 1, d - 1, done ++ [closeO (closeT 1)], by go_num, by rw [show ((d - 1 : Nat) : Int) = (d : Int) - 1 from by omega], by omega, by omega, by simp; omega, HM, HR5, HB5⟩
            case measure => (first | omega | (simp [intOf]; omega))
          · have e6 : (b : Int) % 3 = 2 := by omega
            have hone : madeOne a b d = ([closeO (closeT 2)], d - 1) := by simp [madeOne, h8, h6, hd2]
            have hM := HM.out
            rw [hone, ← List.append_assoc] at hM
            have HM := Lib.hid hM
            clear hM hone
            go_wp2_with (at_builtin; refine wpList_append_own _ rfl _ _ 27 rfl w.heap.size 26 t26 _ 5 48 Tryd.underlying27 T0.out T1.out T2.out T3.out rfl (by decide) u3 _ _ rfl (((HR.out.alloc _).alloc _).alloc _) _ 1 1 (opsC [closeO (closeT 2)]) rfl rfl ?c1 ?c2 ?c3 ?c4 ?c5 ?_)
            case c1 => exact fun _ _ h => h
            case c2 => intro u hu; simp [opsC, opC, textO, newlineO, openO, closeO, indentO, tabO] at hu; rcases hu with rfl | rfl | rfl | rfl | rfl | rfl | rfl | rfl | rfl | rfl <;> rfl
            case c3 => unfold maxLen; omega
            case c4 => omega
            case c5 => have := HBE.out.size; first | omega | (simp; omega)
            intro v5 w5 hown5 hgrow5 _
            obtain ⟨hr5, hb5⟩ := ops_push (xs := [closeO (closeT 2)]) HBE.out (chain (chain (new1 _ _) (new1 _ _)) (new1 _ _)) HR.out hown5 hgrow5
            have HR5 := Lib.hid hr5
            have HB5 := Lib.hid hb5
            clear hr5 hb5 hown5 hgrow5
            go_wp2_with fail
            go_roundw
            case rel => exact ⟨j + 1, d - 1, done ++ [closeO (closeT 2)], by go_num, by rw [show ((d - 1 : Nat) : Int) = (d : Int) - 1 from by omega], by omega, by omega, by simp; omega, HM, HR5, HB5⟩
            case measure => (first | omega | (simp [intOf]; omega))
      · have e8 : (a : Int) % 8 = 6 := by omega
        have h6 : b % 2 = 0 ∨ b % 2 = 1 := by omega
        rcases h6 with h6 | h6
        · have e6 : (b : Int) % 2 = 0 := by omega
          have ew : IntKind.i64.wrap ((b : Int) % 9 - 2) = (b : Int) % 9 - 2 := IntWalk.i64_in _ (by omega)
          have hone : madeOne a b d = ([indentO (((b % 9 : Nat) : Int) - 2) true], d) := by simp [madeOne, h8, h6]
          have hM := HM.out
          rw [hone, ← List.append_assoc] at hM
          have HM := Lib.hid hM
          clear hM hone
          go_wp2_with (at_builtin; refine wpList_append_own _ rfl _ _ 27 rfl w.heap.size 26 t26 _ 5 48 Tryd.underlying27 T0.out T1.out T2.out T3.out rfl (by decide) u3 _ _ rfl ((HR.out.alloc _).alloc _) _ 1 1 (opsC [indentO (((b % 9 : Nat) : Int) - 2) true]) rfl rfl ?c1 ?c2 ?c3 ?c4 ?c5 ?_)
          case c1 => exact fun _ _ h => h
          case c2 => intro u hu; simp [opsC, opC, textO, newlineO, openO, closeO, indentO, tabO] at hu; rcases hu with rfl | rfl | rfl | rfl | rfl | rfl | rfl | rfl | rfl | rfl <;> rfl
          case c3 => unfold maxLen; omega
          case c4 => omega
          case c5 => have := HBE.out.size; first | omega | (simp; omega)
          intro v5 w5 hown5 hgrow5 _
          obtain ⟨hr5, hb5⟩ := ops_push (xs := [indentO (((b % 9 : Nat) : Int) - 2) true]) HBE.out (chain (new1 _ _) (new1 _ _)) HR.out hown5 hgrow5
          have HR5 := Lib.hid hr5
          have HB5 := Lib.hid hb5
          clear hr5 hb5 hown5 hgrow5
          go_wp2_with fail
          go_roundw
          case rel => exact ⟨j + 1, d, done ++ [indentO (((b % 9 : Nat) : Int) - 2) true], by go_num, by go_num, by omega, by omega, by simp; omega, HM, HR5, HB5⟩
          case measure => (first | omega | (simp [intOf]; omega))
        · have e6 : (b : Int) % 2 = 1 := by omega
          have ew : IntKind.i64.wrap ((b : Int) % 9 - 2) = (b : Int) % 9 - 2 := IntWalk.i64_in _ (by omega)
          have hone : madeOne a b d = ([indentO (((b % 9 : Nat) : Int) - 2) false], d) := by simp [madeOne, h8, h6]
          have hM := HM.out
          rw [hone, ← List.append_assoc] at hM
          have HM := Lib.hid hM
          clear hM hone
          go_wp2_with (at_builtin; refine wpList_append_own _ rfl _ _ 27 rfl w.heap.size 26 t26 _ 5 48 Tryd.underlying27 T0.out T1.out T2.out T3.out rfl (by decide) u3 _ _ rfl ((HR.out.alloc _).alloc _) _ 1 1 (opsC [indentO (((b % 9 : Nat) : Int) - 2) false]) rfl rfl ?c1 ?c2 ?c3 ?c4 ?c5 ?_)
          case c1 => exact fun _ _ h => h
          case c2 => intro u hu; simp [opsC, opC, textO, newlineO, openO, closeO, indentO, tabO] at hu; rcases hu with rfl | rfl | rfl | rfl | rfl | rfl | rfl | rfl | rfl | rfl <;> rfl
          case c3 => unfold maxLen; omega
          case c4 => omega
          case c5 => have := HBE.out.size; first | omega | (simp; omega)
          intro v5 w5 hown5 hgrow5 _
          obtain ⟨hr5, hb5⟩ := ops_push (xs := [indentO (((b % 9 : Nat) : Int) - 2) false]) HBE.out (chain (new1 _ _) (new1 _ _)) HR.out hown5 hgrow5
          have HR5 := Lib.hid hr5
          have HB5 := Lib.hid hb5
          clear hr5 hb5 hown5 hgrow5
          go_wp2_with fail
          go_roundw
          case rel => exact ⟨j + 1, d, done ++ [indentO (((b % 9 : Nat) : Int) - 2) false], by go_num, by go_num, by omega, by omega, by simp; omega, HM, HR5, HB5⟩
          case measure => (first | omega | (simp [intOf]; omega))
      · have e8 : (a : Int) % 8 = 7 := by omega
        have h6 : b % 2 = 0 ∨ b % 2 = 1 := by omega
        rcases h6 with h6 | h6
        · have e6 : (b : Int) % 2 = 0 := by omega
          have hone : madeOne a b d = ([tabO ((b % 7 : Nat) : Int) ((b / 7 % 4 : Nat) : Int) true], d) := by simp [madeOne, h8, h6]
          have hM := HM.out
          rw [hone, ← List.append_assoc] at hM
          have HM := Lib.hid hM
          clear hM hone
          go_wp2_with (at_builtin; refine wpList_append_own _ rfl _ _ 27 rfl w.heap.size 26 t26 _ 5 48 Tryd.underlying27 T0.out T1.out T2.out T3.out rfl (by decide) u3 _ _ rfl ((HR.out.alloc _).alloc _) _ 1 1 (opsC [tabO ((b % 7 : Nat) : Int) ((b / 7 % 4 : Nat) : Int) true]) rfl rfl ?c1 ?c2 ?c3 ?c4 ?c5 ?_)
          case c1 => exact fun _ _ h => h
          case c2 => intro u hu; simp [opsC, opC, textO, newlineO, openO, closeO, indentO, tabO] at hu; rcases hu with rfl | rfl | rfl | rfl | rfl | rfl | rfl | rfl | rfl | rfl <;> rfl
          case c3 => unfold maxLen; omega
          case c4 => omega
          case c5 => have := HBE.out.size; first | omega | (simp; omega)
          intro v5 w5 hown5 hgrow5 _
          obtain ⟨hr5, hb5⟩ := ops_push (xs := [tabO ((b % 7 : Nat) : Int) ((b / 7 % 4 : Nat) : Int) true]) HBE.out (chain (new1 _ _) (new1 _ _)) HR.out hown5 hgrow5
          have HR5 := Lib.hid hr5
          have HB5 := Lib.hid hb5
          clear hr5 hb5 hown5 hgrow5
          go_wp2_with fail
          go_roundw
          case rel => exact ⟨j + 1, d, done ++ [tabO ((b % 7 : Nat) : Int) ((b / 7 % 4 : Nat) : Int) true], by go_num, by go_num, by omega, by omega, by simp; omega, HM, HR5, HB5⟩
          case measure => (first | omega | (simp [intOf]; omega))
        · have e6 : (b : Int) % 2 = 1 := by omega
          have hone : madeOne a b d = ([tabO ((b % 7 : Nat) : Int) ((b / 7 % 4 : Nat) : Int) false], d) := by simp [madeOne, h8, h6]
          have hM := HM.out
          rw [hone, ← List.append_assoc] at hM
          have HM := Lib.hid hM
          clear hM hone
          go_wp2_with (at_builtin; refine wpList_append_own _ rfl _ _ 27 rfl w.heap.size 26 t26 _ 5 48 Tryd.underlying27 T0.out T1.out T2.out T3.out rfl (by decide) u3 _ _ rfl ((HR.out.alloc _).alloc _) _ 1 1 (opsC [tabO ((b % 7 : Nat) : Int) ((b / 7 % 4 : Nat) : Int) false]) rfl rfl ?c1 ?c2 ?c3 ?c4 ?c5 ?_)
          case c1 => exact fun _ _ h => h
          case c2 => intro u hu; simp [opsC, opC, textO, newlineO, openO, closeO, indentO, tabO] at hu; rcases hu with rfl | rfl | rfl | rfl | rfl | rfl | rfl | rfl | rfl | rfl <;> rfl
          case c3 => unfold maxLen; omega
          case c4 => omega
          case c5 => have := HBE.out.size; first | omega | (simp; omega)
          intro v5 w5 hown5 hgrow5 _
          obtain ⟨hr5, hb5⟩ := ops_push (xs := [tabO ((b % 7 : Nat) : Int) ((b / 7 % 4 : Nat) : Int) false]) HBE.out (chain (new1 _ _) (new1 _ _)) HR.out hown5 hgrow5
          have HR5 := Lib.hid hr5
          have HB5 := Lib.hid hb5
          clear hr5 hb5 hown5 hgrow5
          go_wp2_with fail
          go_roundw
          case rel => exact ⟨j + 1, d, done ++ [tabO ((b % 7 : Nat) : Int) ((b / 7 % 4 : Nat) : Int) false], by go_num, by go_num, by omega, by omega, by simp; omega, HM, HR5, HB5⟩
          case measure => (first | omega | (simp [intOf]; omega))
    · obtain rfl : j = l.length := by omega
      have hM := HM.out
      rw [List.drop_length] at hM
      have HM : Hid (madeGo l 0 = done ++ List.replicate d (closeO ⟨#[41]⟩)) := hM
      have HDL := Lib.hid hdl
      have HD := Lib.hid hd
      clear hM
      go_wp2_with fail
      go_loopw [3, 96] (fun v3 v96 w' => ∃ (k : Nat) (done : List Op), v96 = .int .i64 k ∧ k ≤ d ∧ Hid (done.length ≤ 120 + k) ∧ Hid (madeGo l 0 = done ++ List.replicate (d - k) (closeO ⟨#[41]⟩)) ∧ Hid (w'.ownsRow w.heap.size 26 5 v3 done.length (opsC done)) ∧ Hid (Below w.heap.size w w')) (fun _ v96 _ => d - (intOf v96).toNat)
      case atStart => exact ⟨0, done, rfl, by omega, Lib.hid (by omega), HM, HR, HBE⟩
      case round =>
        clear HM HR HBE HDL hdl
        obtain ⟨k, done, rfl, hk, HDL, HM, HR, HBE⟩ := hrel
        have hdl := HDL.out
        by_cases hlt2 : k < d
        · have hM := HM.out
          rw [show d - k = (d - (k + 1)) + 1 from by omega, List.replicate_succ] at hM
          rw [show done ++ closeO ⟨#[41]⟩ :: List.replicate (d - (k + 1)) (closeO ⟨#[41]⟩) = (done ++ [closeO ⟨#[41]⟩]) ++ List.replicate (d - (k + 1)) (closeO ⟨#[41]⟩) from by simp] at hM
          have HM := Lib.hid hM
          clear hM
          go_wp2_with (at_builtin; refine wpList_append_own _ rfl _ _ 27 rfl w.heap.size 26 t26 _ 5 48 Tryd.underlying27 T0.out T1.out T2.out T3.out rfl (by decide) _ _ _ rfl (HR.out.alloc _) _ 1 1 (opsC [closeO ⟨#[41]⟩]) rfl rfl ?c1 ?c2 ?c3 ?c4 ?c5 ?_)
          case c1 =>
            intro jj u h
            rw [add_plain]
            try rw [Nat.zero_add]
            exact (blk_cell (heap_alloc_new wr _) jj).trans (by simpa [opsC, opC, closeO] using h)
          case c2 => intro u hu; simp [opsC, opC, closeO] at hu; rcases hu with rfl | rfl | rfl | rfl | rfl | rfl | rfl | rfl | rfl | rfl <;> rfl
          case c3 => unfold maxLen; omega
          case c4 => omega
          case c5 => exact Nat.le_trans HBE.out.size (by simp)
          intro v5 w5 hown5 hgrow5 _
          obtain ⟨hr5, hb5⟩ := ops_push (xs := [closeO ⟨#[41]⟩]) HBE.out (new1 _ _) HR.out hown5 hgrow5
          have HR5 := Lib.hid hr5
          have HB5 := Lib.hid hb5
          clear hr5 hb5 hown5 hgrow5
          go_wp2_with fail
          go_roundw
          case rel => exact ⟨k + 1, done ++ [closeO ⟨#[41]⟩], by go_num, by omega, Lib.hid (by simp; omega), HM, HR5, HB5⟩
          case measure => (first | omega | (simp [intOf]; omega))
        · have hM := HM.out
          rw [show d - k = 0 from by omega] at hM
          simp only [List.replicate_zero, List.append_nil] at hM
          have HM := Lib.hid hM
          clear hM
          go_wp2_with fail
          go_ret
          refine ⟨_, rfl, ?_, HBE.out⟩
          rw [HM.out]
          exact HR.out
end Go.Proofs.YtljgpcaljedhpaaDoor
