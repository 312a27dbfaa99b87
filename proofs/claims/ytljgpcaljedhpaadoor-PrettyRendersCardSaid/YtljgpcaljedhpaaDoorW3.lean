/- whole: it reads the operations and the width alone. -/
import Derived.Test.YtljgpcaljedhpaaDoorW2
namespace Go.Proofs.YtljgpcaljedhpaaDoor
open Go.RowKit

set_option maxHeartbeats 1000000 in
theorem whole_any {E : World → Prop} (L : LibC E) (g : Nat) (A : Option Addr) (l : List Op) (cap : Nat) (width : Int) (w : World) (hE : E w) (hops : OpsIn w A l)
    (hc0 : w.cell? ⟨g, 0, none⟩ = some (.slice A l.length cap)) (hc1 : w.cell? ⟨g, 1, none⟩ = some (.int .i64 width))
    (hok : ∀ x ∈ l, okOp x ∧ x.text.size ≤ 20000) (hl : l.length ≤ 4000) :
    Calls Tryd.prog 30 #[.pointer (some ⟨g, 0, none⟩)] w fun e w' => e = .returned (.bool (wholeP width l 0)) ∧ Below w.heap.size w w' := by
  obtain ⟨R, hR⟩ : ∃ R, wholeP width l 0 = R := ⟨_, rfl⟩
  rw [hR]
  have HR := Lib.hid hR
  clear hR
  have HO := Lib.hid hops
  clear hops
  go_enter Tryd.func30, Tryd.ntmps30
  go_wp2
  go_loopw [3, 11] (fun v3 v11 w' => ∃ (j : Nat) (c : Int), v11 = .int .i64 j ∧ v3 = .int .i64 c ∧ j ≤ l.length ∧ 0 ≤ c ∧ c ≤ 20000 * j ∧ Hid (wholeP width (l.drop j) c = R) ∧ Below w.heap.size w w') (fun _ v11 _ => l.length - (intOf v11).toNat)
  case atStart => exact ⟨0, 0, rfl, rfl, by omega, by omega, by omega, HR, Below.refl _ _⟩
  case round =>
    obtain ⟨j, c, rfl, rfl, hj, hc2, hc3, HF, hb⟩ := hrel
    have hc1' := (hb.cell (p := ⟨g, 1, none⟩) (World.block_lt_of_cell? w _ hc1)).trans hc1
    by_cases hlt : j < l.length
    · obtain ⟨⟨k, t, n, m, f⟩, hx⟩ : ∃ x, l[j]? = some x := ⟨_, List.getElem?_eq_getElem hlt⟩
      have hmem := hok _ (List.mem_of_getElem? hx)
      obtain ⟨ad, rfl, ho, _⟩ := HO.out.below hb (by rintro rfl; simp at hlt)
      obtain ⟨a0, a1, a2, a3, a4⟩ := ho j _ hx
      simp only at a0 a1 a2 a3 a4
      have hdr : l.drop j = ⟨k, t, n, m, f⟩ :: l.drop (j + 1) := by
        rw [List.drop_eq_getElem_cons hlt]
        rw [List.getElem?_eq_getElem hlt] at hx
        injection hx with hx
        rw [hx]
      have HF2 := HF.out
      rw [hdr] at HF2
      unfold wholeP at HF2
      simp only at HF2
      clear hdr HF hx ho
      have hwr := written_size ⟨k, t, n, m, f⟩ c hc2 hmem.1 hmem.2
      have h36 := fun W => written_any L k t n m f c W hc2 (by omega) hmem.1
      have h37 := fun W => column_any L c (writtenP ⟨k, t, n, m, f⟩ c) W hc2 (by omega) (by omega)
      have hcb := colP_bd c (writtenP ⟨k, t, n, m, f⟩ c) hc2
      have hts := hmem.2
      simp only at hts
      have hcon := fun W (hE : E W) => L.con t W hE (by omega)
      generalize hs : writtenP ⟨k, t, n, m, f⟩ c = s at *
      generalize hc' : colP c s = c' at *
      generalize hnl : nlB t = nl at *
      clear hs hc' hmem hnl
      obtain ⟨q0, q1⟩ := hcb
      have H36 := Lib.hid h36
      have H37 := Lib.hid h37
      have HC := Lib.hid hcon
      have HF3 := Lib.hid HF2
      clear h36 h37 HF2 HR hcon
      by_cases k1 : k = 1 ∧ n = 3
      · obtain ⟨rfl, rfl⟩ := k1
        have e := HF3.out
        simp only [and_self, if_true] at e
        clear HF3
        subst e
        go_wp2_with (first | (go_at_call 36; refine (H36.out _).mono ?_; rintro e w1 ⟨rfl, hb1⟩) | (go_at_call 37; refine (H37.out _).mono ?_; rintro e w2 ⟨rfl, hb2⟩) | (go_at_call 21; refine (HC.out _ (L.below (L.below hE hb) (new1 _ _))).mono ?_; rintro e w' ⟨rfl, rfl⟩))
        go_ret
        exact ⟨rfl, hb.alloc hb.size _⟩
      · have e := HF3.out
        simp only [k1, if_false] at e
        have HF := Lib.hid e
        clear HF3 e
        cases nl
        · have e := HF.out
          simp only [Bool.false_eq_true, false_and, if_false] at e
          have HG := Lib.hid e
          clear e HF
          by_cases kk : k = 1
          · have n3 : ¬ n = 3 := fun h => k1 ⟨kk, h⟩
            subst kk
            clear k1
            go_wp2_with (first | (go_at_call 36; refine (H36.out _).mono ?_; rintro e w1 ⟨rfl, hb1⟩) | (go_at_call 37; refine (H37.out _).mono ?_; rintro e w2 ⟨rfl, hb2⟩) | (go_at_call 21; refine (HC.out _ (L.below (L.below hE hb) (new1 _ _))).mono ?_; rintro e w' ⟨rfl, rfl⟩))
            go_roundw
            case rel => exact ⟨j + 1, c', by go_num, rfl, by omega, q0, by omega, HG, hb.trans ((chain (new1 _ _) (chain hb1 hb2)).mono hb.size)⟩
            case measure => simp [intOf]; omega
          · clear k1
            go_wp2_with (first | (go_at_call 36; refine (H36.out _).mono ?_; rintro e w1 ⟨rfl, hb1⟩) | (go_at_call 37; refine (H37.out _).mono ?_; rintro e w2 ⟨rfl, hb2⟩) | (go_at_call 21; refine (HC.out _ (L.below (L.below hE hb) (new1 _ _))).mono ?_; rintro e w' ⟨rfl, rfl⟩))
            go_roundw
            case rel => exact ⟨j + 1, c', by go_num, rfl, by omega, q0, by omega, HG, hb.trans ((chain (new1 _ _) (chain hb1 hb2)).mono hb.size)⟩
            case measure => simp [intOf]; omega
        · by_cases k0 : k = 0
          · subst k0
            have e := HF.out
            simp only [true_and, if_true] at e
            clear HF k1
            subst e
            go_wp2_with (first | (go_at_call 36; refine (H36.out _).mono ?_; rintro e w1 ⟨rfl, hb1⟩) | (go_at_call 37; refine (H37.out _).mono ?_; rintro e w2 ⟨rfl, hb2⟩) | (go_at_call 21; refine (HC.out _ (L.below (L.below hE hb) (new1 _ _))).mono ?_; rintro e w' ⟨rfl, rfl⟩))
            go_ret
            exact ⟨rfl, hb.alloc hb.size _⟩
          · have e := HF.out
            simp only [k0, and_false, if_false] at e
            have HG := Lib.hid e
            clear e HF
            by_cases kk : k = 1
            · have n3 : ¬ n = 3 := fun h => k1 ⟨kk, h⟩
              subst kk
              clear k1 k0
              go_wp2_with (first | (go_at_call 36; refine (H36.out _).mono ?_; rintro e w1 ⟨rfl, hb1⟩) | (go_at_call 37; refine (H37.out _).mono ?_; rintro e w2 ⟨rfl, hb2⟩) | (go_at_call 21; refine (HC.out _ (L.below (L.below hE hb) (new1 _ _))).mono ?_; rintro e w' ⟨rfl, rfl⟩))
              go_roundw
              case rel => exact ⟨j + 1, c', by go_num, rfl, by omega, q0, by omega, HG, hb.trans ((chain (new1 _ _) (chain hb1 hb2)).mono hb.size)⟩
              case measure => simp [intOf]; omega
            · clear k1
              go_wp2_with (first | (go_at_call 36; refine (H36.out _).mono ?_; rintro e w1 ⟨rfl, hb1⟩) | (go_at_call 37; refine (H37.out _).mono ?_; rintro e w2 ⟨rfl, hb2⟩) | (go_at_call 21; refine (HC.out _ (L.below (L.below hE hb) (new1 _ _))).mono ?_; rintro e w' ⟨rfl, rfl⟩))
              go_roundw
              case rel => exact ⟨j + 1, c', by go_num, rfl, by omega, q0, by omega, HG, hb.trans ((chain (new1 _ _) (chain hb1 hb2)).mono hb.size)⟩
              case measure => simp [intOf]; omega
    · have hjl : j = l.length := by omega
      have e := HF.out
      have hnil : l.drop j = [] := List.drop_eq_nil_of_le (by omega)
      rw [hnil] at e
      unfold wholeP at e
      clear HF hnil HR hjl
      subst e
      go_wp2
      go_ret
      exact ⟨rfl, hb⟩
end Go.Proofs.YtljgpcaljedhpaaDoor
