/- The reference's Check, walked. -/
import Derived.Test.YtljgpcaljedhpaaDoorR6
namespace Go.Proofs.YtljgpcaljedhpaaDoor
open Go.RowKit

theorem bytesSum_take_le (l : List Op) (j : Nat) : bytesSum (l.take j) ≤ bytesSum l := by
  have h : bytesSum l = bytesSum (l.take j) + bytesSum (l.drop j) := by
    unfold bytesSum
    rw [← List.sum_append, ← List.map_append, List.take_append_drop]
  omega

set_option maxRecDepth 100000 in
set_option maxHeartbeats 4000000 in
theorem rcheck_any {E : World → Prop} (L : LibC E) (A : Option Addr) (l : List Op) (cap : Nat) (w : World) (hE : E w) (hops : OpsIn w A l) (hcap : l.length ≤ cap) (hl : l.length ≤ 60000) (ht : ∀ x ∈ l, x.text.size ≤ 140737488355328) :
    Calls Tryd.prog 18 #[.slice A l.length cap] w (CheckSays l w) := by
  have HO := Lib.hid hops
  obtain ⟨R, hR⟩ : ∃ R, checkP l = R := ⟨_, rfl⟩
  have hpost : ∀ e w', (e = .returned (.int .i64 R) ∧ Below w.heap.size w w') → CheckSays l w e w' := fun e w' h => by rw [← hR] at h; exact h
  refine Calls.mono ?_ hpost
  unfold checkP at hR
  have HR := Lib.hid hR
  have HT := Lib.hid ht
  clear hops hR hpost ht
  by_cases h4 : 4000 < l.length
  · have hR := HR.out
    rw [if_pos (.inl h4)] at hR
    subst hR
    clear HR
    have h4' : (4000 : Int) < (l.length : Int) := by omega
    go_enter Tryd.func18, Tryd.ntmps18
    go_wp2_with fail
    go_ret
    exact ⟨rfl, Below.refl _ _⟩
  have h4' : ¬ (4000 : Int) < (l.length : Int) := by omega
  go_enter Tryd.func18, Tryd.ntmps18
  go_wp2_with fail
  go_loopw [3, 4] (fun v3 v4 w' => ∃ (j b : Nat), v4 = .int .i64 j ∧ v3 = .int .i64 b ∧ j ≤ l.length ∧ Hid (bytesSum (l.take j) = b) ∧ b ≤ 20000 ∧ w = w') (fun _ v4 _ => l.length - (intOf v4).toNat)
  case atStart => exact ⟨0, 0, rfl, rfl, by omega, rfl, by omega, rfl⟩
  case round =>
    obtain ⟨j, b, rfl, rfl, hj, HB, hb2, rfl⟩ := hrel
    by_cases hlt : j < l.length
    · obtain ⟨⟨k, t, n, m, f⟩, hx⟩ : ∃ x, l[j]? = some x := ⟨_, List.getElem?_eq_getElem hlt⟩
      obtain ⟨ad, rfl, ho, _⟩ := HO.out (by rintro rfl; simp at hlt)
      obtain ⟨_, a1, _, _, _⟩ := ho j _ hx
      have hts := HT.out _ (List.mem_of_getElem? hx)
      simp only at a1 hts
      have hs1 := bytesSum_take l j _ hx
      have HB' : Hid (bytesSum (l.take (j + 1)) = b + t.size) := by rw [hs1, HB.out]; rfl
      clear hs1 ho hx HB
      by_cases hbig : 20000 < b + t.size
      · have hle := bytesSum_take_le l (j + 1)
        rw [HB'.out] at hle
        have hR := HR.out
        rw [if_pos (.inr (by omega))] at hR
        subst hR
        clear HR
        have hbig' : (20000 : Int) < (b : Int) + (t.size : Int) := by omega
        clear hle
        go_wp2_with fail
        go_ret
        exact ⟨rfl, Below.refl _ _⟩
      · have hbig' : ¬ (20000 : Int) < (b : Int) + (t.size : Int) := by omega
        go_wp2_with fail
        go_roundw
        case rel => exact ⟨j + 1, b + t.size, by go_num, by go_num, by omega, HB', by omega, trivial⟩
        case measure => simp [intOf]; omega
    · have hjl : j = l.length := by omega
      have hbs : bytesSum l = b := by have := HB.out; rw [hjl, List.take_length] at this; exact this
      have hR := HR.out
      rw [if_neg (by omega)] at hR
      have HR : Hid (checkGo (l.drop 0) 0 = R) := hR
      have HT2 := Lib.hid (fun x (hx : x ∈ l) => show x.text.size < 4294967281 from by have := bytesSum_mem hx; omega)
      clear hR hbs HB hjl HT
      go_wp2_with fail
      go_loopw [5, 6, 7] (fun v5 v6 _ w' => ∃ (j d : Nat), v6 = .int .i64 j ∧ v5 = .int .i64 d ∧ j ≤ l.length ∧ d ≤ 100 ∧ Hid (checkGo (l.drop j) d = R) ∧ Hid (Below w.heap.size w w')) (fun _ v6 _ _ => l.length - (intOf v6).toNat)
      case atStart => exact ⟨0, 0, rfl, rfl, by omega, by omega, HR, Lib.hid (Below.refl _ _)⟩
      case round =>
        obtain ⟨j, d, rfl, rfl, hj, hd, HX, HB⟩ := hrel
        by_cases hlt : j < l.length
        · obtain ⟨⟨k, t, n, m, f⟩, hx⟩ : ∃ x, l[j]? = some x := ⟨_, List.getElem?_eq_getElem hlt⟩
          have HO1 := Lib.hid (HO.out.below HB.out)
          obtain ⟨ad, rfl, ho, _⟩ := HO1.out (by rintro rfl; simp at hlt)
          obtain ⟨a0, a1, a2, a3, a4⟩ := ho j _ hx
          simp only at a0 a1 a2 a3 a4
          have hdr : l.drop j = ⟨k, t, n, m, f⟩ :: l.drop (j + 1) := by
            rw [List.drop_eq_getElem_cons hlt]
            rw [List.getElem?_eq_getElem hlt] at hx
            injection hx with hx
            rw [hx]
          have hX := HX.out
          rw [hdr] at hX
          rw [checkGo_cons] at hX
          have hck := fun W hE => single_any L ⟨k, t, n, m, f⟩ W hE (HT2.out _ (List.mem_of_getElem? hx))
          simp only at hX hck
          have hcell : ∀ w2, Below wr.heap.size wr w2 → w2.cell? (ad.add (j * 5)) = some (.int .i64 k) := fun w2 hb => by
            obtain ⟨ad', e1, ho', _⟩ := (HO1.out.below hb) (by rintro rfl; simp at hlt)
            obtain rfl := Option.some.inj e1
            exact (ho' j _ hx).1
          generalize checkOne ⟨k, t, n, m, f⟩ = c at *
          have HCK := Lib.hid hck
          have HCELL := Lib.hid hcell
          have HX := Lib.hid hX
          have HEE := Lib.hid (L.below hE HB.out)
          clear hdr hx ho hck hX hcell
          have d0 : (0 : Int) ≤ (d : Int) := Int.natCast_nonneg _
          by_cases hc : c = 0
          · subst hc
            have hX := HX.out
            rw [if_neg (by decide)] at hX
            have HX := Lib.hid hX
            clear hX
            by_cases k2 : k = 2
            · subst k2
              have hX := HX.out
              rw [show deeper ⟨2, t, n, m, f⟩ (d : Int) = (d : Int) + 1 from rfl] at hX
              by_cases hb100 : d = 100
              · rw [if_pos (by omega)] at hX
                subst hX
                subst hb100
                clear HR HX
                go_wp2_with (go_at_call 45; refine (HCK.out _ HEE.out).mono ?_; rintro e w1 ⟨rfl, hb1⟩; have l0 := HCELL.out w1 hb1; have HB1 := Lib.hid (HB.out.trans (hb1.mono HB.out.size)); clear hb1 a0)
                go_ret
                exact ⟨rfl, HB1.out⟩
              · rw [if_neg (by omega)] at hX
                have HX : Hid (checkGo (l.drop (j + 1)) ((d + 1 : Nat) : Int) = R) := hX
                have hlt100 : ¬ (100 : Int) < (d : Int) + 1 := by omega
                clear hX
                go_wp2_with (go_at_call 45; refine (HCK.out _ HEE.out).mono ?_; rintro e w1 ⟨rfl, hb1⟩; have l0 := HCELL.out w1 hb1; have HB1 := Lib.hid (HB.out.trans (hb1.mono HB.out.size)); clear hb1 a0)
                go_roundw
                case rel => exact ⟨j + 1, d + 1, by go_num, by go_num, by omega, by omega, HX, HB1⟩
                case measure => simp [intOf]; omega
            by_cases k3 : k = 3
            · subst k3
              have hX := HX.out
              rw [show deeper ⟨3, t, n, m, f⟩ (d : Int) = (d : Int) - 1 from rfl] at hX
              by_cases hd0 : d = 0
              · subst hd0
                rw [if_pos (by omega)] at hX
                subst hX
                clear HR HX
                go_wp2_with (go_at_call 45; refine (HCK.out _ HEE.out).mono ?_; rintro e w1 ⟨rfl, hb1⟩; have l0 := HCELL.out w1 hb1; have HB1 := Lib.hid (HB.out.trans (hb1.mono HB.out.size)); clear hb1 a0)
                go_ret
                exact ⟨rfl, HB1.out⟩
              · rw [if_neg (by omega), show ((d : Int) - 1) = ((d - 1 : Nat) : Int) from by omega] at hX
                have HX := Lib.hid hX
                have d1 : (0 : Int) < (d : Int) := by omega
                clear hX
                go_wp2_with (go_at_call 45; refine (HCK.out _ HEE.out).mono ?_; rintro e w1 ⟨rfl, hb1⟩; have l0 := HCELL.out w1 hb1; have HB1 := Lib.hid (HB.out.trans (hb1.mono HB.out.size)); clear hb1 a0)
                go_roundw
                case rel => exact ⟨j + 1, d - 1, by go_num, by rw [show ((d : Int) - 1) = ((d - 1 : Nat) : Int) from by omega], by omega, by omega, HX, HB1⟩
                case measure => simp [intOf]; omega
            · have hX := HX.out
              rw [show deeper ⟨k, t, n, m, f⟩ (d : Int) = (d : Int) from by simp [deeper, k2, k3], if_neg (by omega)] at hX
              have HX := Lib.hid hX
              clear hX
              go_wp2_with (go_at_call 45; refine (HCK.out _ HEE.out).mono ?_; rintro e w1 ⟨rfl, hb1⟩; have l0 := HCELL.out w1 hb1; have HB1 := Lib.hid (HB.out.trans (hb1.mono HB.out.size)); clear hb1 a0)
              go_roundw
              case rel => exact ⟨j + 1, d, by go_num, by go_num, by omega, by omega, HX, HB1⟩
              case measure => simp [intOf]; omega
          · have hX := HX.out
            rw [if_pos hc] at hX
            subst hX
            have hc' : (c == 0) = false := by simpa using hc
            clear HR HX hc
            go_wp2_with (go_at_call 45; refine (HCK.out _ HEE.out).mono ?_; rintro e w1 ⟨rfl, hb1⟩; have l0 := HCELL.out w1 hb1; have HB1 := Lib.hid (HB.out.trans (hb1.mono HB.out.size)); clear hb1 a0)
            go_ret
            exact ⟨rfl, HB1.out⟩
        · have hjl : j = l.length := by omega
          have hX := HX.out
          rw [hjl, List.drop_length] at hX
          unfold checkGo at hX
          clear HX hjl
          by_cases hd0 : (d : Int) > 0
          · rw [if_pos hd0] at hX
            subst hX
            have hd1 : (0 : Int) < (d : Int) := hd0
            go_wp2_with fail
            go_ret
            exact ⟨rfl, HB.out⟩
          · rw [if_neg hd0] at hX
            subst hX
            have hd1 : ¬ (0 : Int) < (d : Int) := hd0
            go_wp2_with fail
            go_ret
            exact ⟨rfl, HB.out⟩
end Go.Proofs.YtljgpcaljedhpaaDoor
