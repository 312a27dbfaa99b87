/- The reference's fits, walked. -/
import Derived.Test.YtljgpcaljedhpaaDoorR4
import Derived.Test.YtljgpcaljedhpaaDoorQ3
namespace Go.Proofs.YtljgpcaljedhpaaDoor
open Go.RowKit

theorem feeds_lf (t : ByteArray) (hs : t.size ≤ 4611686018427387904) (w : World) :
    Calls Tryd.prog 41 #[.string t] w fun e w' => e = .returned (.tuple #[.int .i64 (lfs t), .int .i64 (fw t)]) ∧ w' = w := feeds_any t hs w
theorem fw_le (t : ByteArray) : fw t ≤ t.size := by
  have := feedW_le t.data.toList 0
  rw [data_len] at this
  unfold fw; omega
theorem lfs_le (t : ByteArray) : lfs t ≤ t.size := by
  have := List.count_le_length (a := (10 : UInt8)) (l := t.data.toList)
  rw [data_len] at this
  exact this

set_option maxRecDepth 100000 in
set_option maxHeartbeats 4000000 in
theorem rfits_any (A : Option Addr) (l : List Op) (cap fr : Nat) (c0 W least : Int) (w : World) (hops : OpsIn w A l) (hv : ∀ x ∈ l, Valid x ∧ x.text.size ≤ 20000)
    (hl : l.length ≤ 4000) (hcap : l.length ≤ cap) (hfr : fr ≤ l.length) (h0 : 0 ≤ c0) (h1 : c0 ≤ 1000000000000) (hW : W ≤ 1000000) (l0 : -1 ≤ least) (l1 : least ≤ 0) :
    Calls Tryd.prog 42 #[.slice A l.length cap, .int .i64 fr, .int .i64 c0, .int .i64 W, .int .i64 least] w fun e w' => e = .returned (.bool (rfitsP W (l.drop fr) 0 least c0)) ∧ Below w.heap.size w w' := by
  obtain ⟨R, hR⟩ : ∃ R, rfitsP W (l.drop fr) 0 least c0 = R := ⟨_, rfl⟩
  rw [hR]
  have HR := Lib.hid hR
  have HO := Lib.hid hops
  have HV := Lib.hid hv
  clear hR hops hv
  go_enter Tryd.func42, Tryd.ntmps42
  go_wp2_with fail
  go_loopw [2, 4, 11, 12] (fun v2 v4 v11 v12 w' => ∃ (j : Nat) (c d e : Int), v12 = .int .i64 j ∧ v2 = .int .i64 c ∧ v4 = .int .i64 e ∧ v11 = .int .i64 d ∧ fr ≤ j ∧ j ≤ l.length ∧ 0 ≤ c ∧ c ≤ 1000000000000 + 20000 * (j - fr) ∧ -1 - (j - fr : Int) ≤ e ∧ e ≤ 0 ∧ -(j - fr : Int) ≤ d ∧ d ≤ (j - fr : Int) ∧ Hid (rfitsP W (l.drop j) d e c = R) ∧ Hid (Below w.heap.size w w')) (fun _ _ _ v12 _ => l.length - (intOf v12).toNat)
  case atStart => exact ⟨fr, c0, 0, least, rfl, rfl, rfl, rfl, by omega, by omega, by omega, by omega, by omega, by omega, by omega, by omega, HR, Lib.hid (Below.refl _ _)⟩
  case round =>
    obtain ⟨j, c, d, e, rfl, rfl, rfl, rfl, hjf, hj, hc2, hc3, he2, he3, hd2, hd3, HF, HB⟩ := hrel
    by_cases hlt : j < l.length
    · obtain ⟨⟨k, t, n, m, f⟩, hx⟩ : ∃ x, l[j]? = some x := ⟨_, List.getElem?_eq_getElem hlt⟩
      obtain ⟨hval, hts⟩ := HV.out _ (List.mem_of_getElem? hx)
      obtain ⟨ad, rfl, ho, _⟩ := HO.out.below HB.out (by rintro rfl; simp at hlt)
      obtain ⟨a0, a1, a2, a3, a4⟩ := ho j _ hx
      simp only at a0 a1 a2 a3 a4 hts
      have hdr : l.drop j = ⟨k, t, n, m, f⟩ :: l.drop (j + 1) := by
        rw [List.drop_eq_getElem_cons hlt]
        rw [List.getElem?_eq_getElem hlt] at hx
        injection hx with hx
        rw [hx]
      have hF := HF.out
      rw [hdr] at hF
      unfold rfitsP at hF
      simp only at hF
      clear hdr HF ho hx
      by_cases hcw : c ≤ W
      · rw [if_neg (fun e => e hcw)] at hF
        have HF := Lib.hid hF
        have hk := kind_cases hval
        have htab := hval.tab
        have htb := fun (w : World) (q : k = 5) => rtab_any ⟨k, t, n, m, f⟩ c w hc2 (by omega) (hval.tab q).1 (hval.tab q).2.1 (hval.tab q).2.2.1 (hval.tab q).2.2.2
        have hsb := fun (q : k = 5) => spaces_bd ⟨k, t, n, m, f⟩ c hc2 (hval.tab q).1 (hval.tab q).2.1 (hval.tab q).2.2.1 (hval.tab q).2.2.2
        have hfd := fun w => feeds_lf t (by omega) w
        have hfw := fw_le t
        have hlw := lfs_le t
        simp only at hk htb hsb
        generalize spacesP ⟨k, t, n, m, f⟩ c = sp at *
        generalize fw t = b at *
        generalize lfs t = a at *
        have HFD := Lib.hid hfd
        have HTB := Lib.hid htb
        have HSB := Lib.hid hsb
        clear hfd htb hval htab hF hsb
        rcases hk with rfl | rfl | rfl | rfl | rfl | rfl
        · have hF := HF.out
          simp only [Int.reduceEq, reduceIte] at hF
          clear HF HTB HSB
          by_cases ha : 0 < a
          · rw [if_pos ha] at hF
            have ha' : (0 : Int) < (a : Int) := by omega
            subst hF
            clear HR
            go_wp2_with (go_at_call 41; refine (HFD.out _).mono ?_; rintro e w' ⟨rfl, rfl⟩)
            go_ret
            exact ⟨rfl, HB.out.alloc HB.out.size _⟩
          · rw [if_neg ha] at hF
            have ha' : ¬ (0 : Int) < (a : Int) := by omega
            have HF := Lib.hid hF
            clear hF
            go_wp2_with (go_at_call 41; refine (HFD.out _).mono ?_; rintro e w' ⟨rfl, rfl⟩)
            go_roundw
            case rel => exact ⟨j + 1, c + b, d, e, by go_num, by go_num, rfl, rfl, by omega, by omega, by omega, by omega, by omega, by omega, by omega, by omega, HF, Lib.hid (HB.out.alloc HB.out.size _)⟩
            case measure => simp [intOf]; omega
        · have hF := HF.out
          simp only [Int.reduceEq, reduceIte] at hF
          clear HF HTB HSB HFD
          by_cases hde : d = e
          · rw [if_pos hde] at hF
            have hde' : (d == e) = true := by simpa using hde
            subst hF
            clear HR hde
            go_wp2_with fail
            go_ret
            exact ⟨rfl, HB.out.alloc HB.out.size _⟩
          · rw [if_neg hde] at hF
            have hde' : (d == e) = false := by simpa using hde
            clear hde
            by_cases n3 : n = 3
            · rw [if_pos n3] at hF
              have n3' : (n == 3) = true := by simpa using n3
              subst hF
              clear HR n3
              go_wp2_with fail
              go_ret
              exact ⟨rfl, HB.out.alloc HB.out.size _⟩
            · rw [if_neg n3] at hF
              have n3' : (n == 3) = false := by simpa using n3
              have HF := Lib.hid hF
              clear n3 hF
              go_wp2_with fail
              go_roundw
              case rel => exact ⟨j + 1, c, d, e, by go_num, rfl, rfl, rfl, by omega, by omega, by omega, by omega, by omega, by omega, by omega, by omega, HF, Lib.hid (HB.out.alloc HB.out.size _)⟩
              case measure => simp [intOf]; omega
        · have hF := HF.out
          simp only [Int.reduceEq, reduceIte] at hF
          clear HF HTB HSB
          by_cases ha : 0 < a
          · rw [if_pos ha] at hF
            have ha' : (0 : Int) < (a : Int) := by omega
            subst hF
            clear HR
            go_wp2_with (go_at_call 41; refine (HFD.out _).mono ?_; rintro e w' ⟨rfl, rfl⟩)
            go_ret
            exact ⟨rfl, HB.out.alloc HB.out.size _⟩
          · rw [if_neg ha] at hF
            have ha' : ¬ (0 : Int) < (a : Int) := by omega
            have HF := Lib.hid hF
            clear hF
            go_wp2_with (go_at_call 41; refine (HFD.out _).mono ?_; rintro e w' ⟨rfl, rfl⟩)
            go_roundw
            case rel => exact ⟨j + 1, c + b, d + 1, e, by go_num, by go_num, rfl, by go_num, by omega, by omega, by omega, by omega, by omega, by omega, by omega, by omega, HF, Lib.hid (HB.out.alloc HB.out.size _)⟩
            case measure => simp [intOf]; omega
        · have hF := HF.out
          simp only [Int.reduceEq, reduceIte] at hF
          clear HF HTB HSB
          by_cases ha : 0 < a
          · rw [if_pos ha] at hF
            have ha' : (0 : Int) < (a : Int) := by omega
            subst hF
            clear HR
            go_wp2_with (go_at_call 41; refine (HFD.out _).mono ?_; rintro e w' ⟨rfl, rfl⟩)
            go_ret
            exact ⟨rfl, HB.out.alloc HB.out.size _⟩
          · rw [if_neg ha] at hF
            have ha' : ¬ (0 : Int) < (a : Int) := by omega
            have HF := Lib.hid hF
            clear hF
            by_cases hm : d - 1 < e
            · have hmm : min e (d - 1) = d - 1 := by omega
              have hF := HF.out
              rw [hmm] at hF
              have HF := Lib.hid hF
              clear hF
              go_wp2_with (go_at_call 41; refine (HFD.out _).mono ?_; rintro e w' ⟨rfl, rfl⟩)
              go_roundw
              case rel => exact ⟨j + 1, c + b, d - 1, d - 1, by go_num, by go_num, (by first | rfl | go_num), by go_num, by omega, by omega, by omega, by omega, by omega, by omega, by omega, by omega, HF, Lib.hid (HB.out.alloc HB.out.size _)⟩
              case measure => simp [intOf]; omega
            · have hmm : min e (d - 1) = e := by omega
              have hF := HF.out
              rw [hmm] at hF
              have HF := Lib.hid hF
              have hm2 : e ≤ d - 1 := by omega
              clear hF
              go_wp2_with (go_at_call 41; refine (HFD.out _).mono ?_; rintro e w' ⟨rfl, rfl⟩)
              go_roundw
              case rel => exact ⟨j + 1, c + b, d - 1, e, by go_num, by go_num, (by first | rfl | go_num), by go_num, by omega, by omega, by omega, by omega, by omega, by omega, by omega, by omega, HF, Lib.hid (HB.out.alloc HB.out.size _)⟩
              case measure => simp [intOf]; omega
        · have hF := HF.out
          simp only [Int.reduceEq, reduceIte] at hF
          have HF := Lib.hid hF
          clear hF HTB HSB HFD
          go_wp2_with fail
          go_roundw
          case rel => exact ⟨j + 1, c, d, e, by go_num, rfl, rfl, rfl, by omega, by omega, by omega, by omega, by omega, by omega, by omega, by omega, HF, Lib.hid (HB.out.alloc HB.out.size _)⟩
          case measure => simp [intOf]; omega
        · have hF := HF.out
          simp only [Int.reduceEq, reduceIte] at hF
          have HF := Lib.hid hF
          obtain ⟨q0, q1⟩ := HSB.out rfl
          clear hF HSB HFD
          go_wp2_with (go_at_call 40; refine (HTB.out _ rfl).mono ?_; rintro e w1 ⟨rfl, hb1⟩)
          go_roundw
          case rel => exact ⟨j + 1, c + sp, d, e, by go_num, by go_num, rfl, rfl, by omega, by omega, by omega, by omega, by omega, by omega, by omega, by omega, HF, Lib.hid (HB.out.trans ((chain (new1 _ _) hb1).mono HB.out.size))⟩
          case measure => simp [intOf]; omega
      · rw [if_pos hcw] at hF
        subst hF
        clear HR
        have hcw' : decide (c ≤ W) = false := decide_eq_false hcw
        go_wp2_with fail
        go_ret
        exact ⟨rfl, HB.out⟩
    · obtain rfl : j = l.length := by omega
      have hF := HF.out
      rw [List.drop_length] at hF
      unfold rfitsP at hF
      subst hF
      clear HR HF
      by_cases hcw : c ≤ W
      · go_wp2_with fail
        go_ret
        exact ⟨by first | rfl | simp [hcw], HB.out⟩
      · go_wp2_with fail
        go_ret
        exact ⟨by first | rfl | simp [hcw], HB.out⟩
end Go.Proofs.YtljgpcaljedhpaaDoor
