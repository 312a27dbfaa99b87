/- Check. -/
import Derived.Test.YtljgpcaljedhpaaDoorX4
namespace Go.Proofs.YtljgpcaljedhpaaDoor
open Go.RowKit

theorem bytesSum_take (l : List Op) (j : Nat) (x : Op) (h : l[j]? = some x) : bytesSum (l.take (j + 1)) = bytesSum (l.take j) + x.text.size := by
  unfold bytesSum
  obtain ⟨hj, e⟩ := List.getElem?_eq_some_iff.1 h
  rw [List.take_succ_eq_append_getElem hj, List.map_append, List.sum_append, e]
  simp
theorem bytesSum_mem {l : List Op} {x : Op} (h : x ∈ l) : x.text.size ≤ bytesSum l := by
  unfold bytesSum
  induction l with
  | nil => cases h
  | cons a r ih =>
    rw [List.map_cons, List.sum_cons]
    rcases List.mem_cons.1 h with rfl | h
    · omega
    · have := ih h; omega
theorem bytesSum_le (l : List Op) (b : Nat) (h : ∀ x ∈ l, x.text.size ≤ b) : bytesSum l ≤ l.length * b := by
  unfold bytesSum
  induction l with
  | nil => simp
  | cons a r ih =>
    rw [List.map_cons, List.sum_cons, List.length_cons, Nat.add_mul]
    have h1 := h a (by simp)
    have h2 := ih fun x hx => h x (by simp [hx])
    omega

theorem checkGo_cons (x : Op) (r : List Op) (d : Int) : checkGo (x :: r) d = if checkOne x ≠ 0 then checkOne x else if deeper x d < 0 ∨ deeper x d > 100 then 110 else checkGo r (deeper x d) := rfl

/-- A call of Check. -/
def CheckSays (l : List Op) (w : World) (e : Ending) (w' : World) : Prop := e = .returned (.int .i64 (checkP l)) ∧ Below w.heap.size w w'

set_option maxRecDepth 100000 in
set_option maxHeartbeats 4000000 in
theorem checkAll_any {E : World → Prop} (L : LibC E) (A : Option Addr) (l : List Op) (cap : Nat) (w : World) (hE : E w) (hops : OpsIn w A l) (hl : l.length ≤ 60000) (ht : ∀ x ∈ l, x.text.size ≤ 140737488355328) :
    Calls Tryd.prog 17 #[.slice A l.length cap] w (CheckSays l w) := by
  have HO := Lib.hid hops
  obtain ⟨R, hR⟩ : ∃ R, checkP l = R := ⟨_, rfl⟩
  have hpost : ∀ e w', (e = .returned (.int .i64 R) ∧ Below w.heap.size w w') → CheckSays l w e w' := fun e w' h => by rw [← hR] at h; exact h
  refine Calls.mono ?_ hpost
  have HR := Lib.hid hR
  have HT := Lib.hid ht
  clear hops hR hpost ht
  have hsum : ∀ j, bytesSum (l.take j) ≤ 8444249301319680000 := fun j => by
    have h1 := bytesSum_le (l.take j) 140737488355328 fun x hx => HT.out x (List.mem_of_mem_take hx)
    have h2 : (l.take j).length ≤ 60000 := by rw [List.length_take]; omega
    have h3 := Nat.mul_le_mul_right 140737488355328 h2
    omega
  have HSUM := Lib.hid hsum
  clear hsum
  go_enter Tryd.func17, Tryd.ntmps17
  go_wp2_with fail
  go_loopw [3, 12] (fun v3 v12 w' => ∃ (j b : Nat), v12 = .int .i64 j ∧ v3 = .int .i64 b ∧ j ≤ l.length ∧ Hid (bytesSum (l.take j) = b) ∧ b ≤ 8444249301319680000 ∧ Below w.heap.size w w') (fun _ v12 _ => l.length - (intOf v12).toNat)
  case atStart => exact ⟨0, 0, rfl, rfl, by omega, rfl, by omega, Below.refl _ _⟩
  case round =>
    obtain ⟨j, b, rfl, rfl, hj, HB, hb2, hb⟩ := hrel
    by_cases hlt : j < l.length
    · obtain ⟨⟨k, t, n, m, f⟩, hx⟩ : ∃ x, l[j]? = some x := ⟨_, List.getElem?_eq_getElem hlt⟩
      obtain ⟨ad, rfl, ho, _⟩ := HO.out.below hb (by rintro rfl; simp at hlt)
      obtain ⟨a0, a1, a2, a3, a4⟩ := ho j _ hx
      simp only at a0 a1 a2 a3 a4
      have hs1 := bytesSum_take l j _ hx
      have hs2 := HSUM.out (j + 1)
      rw [hs1, HB.out] at hs2
      simp only at hs1 hs2
      have HB' : Hid (bytesSum (l.take (j + 1)) = b + t.size) := by rw [hs1, HB.out]; rfl
      clear hs1 ho hx HB
      go_wp2_with fail
      go_roundw
      case rel => exact ⟨j + 1, b + t.size, by go_num, by go_num, by omega, HB', hs2, hb.alloc hb.size _⟩
      case measure => simp [intOf]; omega
    · have hjl : j = l.length := by omega
      have hbs : bytesSum l = b := by have := HB.out; rw [hjl, List.take_length] at this; exact this
      have hR := HR.out
      unfold checkP at hR
      rw [hbs] at hR
      have HBS := Lib.hid hbs
      clear hjl HB HR hbs
      by_cases hbig : l.length > 4000 ∨ b > 20000
      · rw [if_pos hbig] at hR
        subst hR
        by_cases h4 : l.length > 4000
        · clear hbig
          go_wp2_with fail
          go_ret
          exact ⟨rfl, hb⟩
        · have h5 : b > 20000 := by omega
          have h4' : ¬ 4000 < l.length := h4
          clear hbig h4
          go_wp2_with fail
          go_ret
          exact ⟨rfl, hb⟩
      · rw [if_neg hbig] at hR
        have h4 : ¬ 4000 < l.length := by omega
        have h5 : ¬ 20000 < b := by omega
        have HR : Hid (checkGo (l.drop 0) 0 = R) := hR
        have HT2 := Lib.hid (fun x (hx : x ∈ l) => show x.text.size < 4294967281 from by have := bytesSum_mem hx; have := HBS.out; omega)
        clear hR hbig HSUM HBS
        go_wp2_with fail
        go_loopw [6, 31] (fun v6 v31 w' => ∃ (j d : Nat), v31 = .int .i64 j ∧ v6 = .int .i64 d ∧ j ≤ l.length ∧ d ≤ 100 ∧ Hid (checkGo (l.drop j) d = R) ∧ Below w.heap.size w w') (fun _ v31 _ => l.length - (intOf v31).toNat)
        case atStart => exact ⟨0, 0, rfl, rfl, by omega, by omega, HR, hb⟩
        case round =>
          clear hb
          obtain ⟨j, d, rfl, rfl, hj, hd, HX, hb⟩ := hrel
          by_cases hlt : j < l.length
          · obtain ⟨⟨k, t, n, m, f⟩, hx⟩ : ∃ x, l[j]? = some x := ⟨_, List.getElem?_eq_getElem hlt⟩
            obtain ⟨ad, rfl, ho, _⟩ := HO.out.below hb (by rintro rfl; simp at hlt)
            obtain ⟨a0, a1, a2, a3, a4⟩ := ho j _ hx
            simp only at a0 a1 a2 a3 a4
            have hdr : l.drop j = ⟨k, t, n, m, f⟩ :: l.drop (j + 1) := by
              rw [List.drop_eq_getElem_cons hlt]
              rw [List.getElem?_eq_getElem hlt] at hx
              injection hx with hx
              rw [hx]
            have hX := HX.out
            rw [hdr] at hX
            rw [checkGo_cons] at hX
            have hck := fun W hE => check_any L ⟨k, t, n, m, f⟩ W hE (HT2.out _ (List.mem_of_getElem? hx))
            simp only at hX hck
            generalize checkOne ⟨k, t, n, m, f⟩ = c at *
            have HCK := Lib.hid hck
            have HX := Lib.hid hX
            clear hdr hx ho hck hX
            have d0 : (0 : Int) ≤ (d : Int) := Int.natCast_nonneg _
            by_cases hc : c = 0
            · subst hc
              have hX := HX.out
              rw [if_neg (by decide)] at hX
              have HX := Lib.hid hX
              clear hX
              by_cases k2 : k = 2
              · subst k2
                have hX := HX.out
                rw [show deeper ⟨2, t, n, m, f⟩ (d : Int) = (d : Int) + 1 from rfl] at hX
                by_cases hb100 : d = 100
                · rw [if_pos (by omega)] at hX
                  subst hX
                  subst hb100
                  go_wp2_with (go_at_call 44; refine (HCK.out _ (L.below (L.below hE hb) (new1 _ _))).mono ?_; rintro e w1 ⟨rfl, hb1⟩; have hloc := blk_below (heap_alloc_new wr (.cells #[.int .i64 2, .string t, .int .i64 n, .int .i64 m, .bool f] 26)) hb1; have l0 : w1.cell? ⟨wr.heap.size, 0, none⟩ = some (.int .i64 2) := blk_cell hloc 0; have HB1 := Lib.hid (hb.trans ((chain (new1 _ _) hb1).mono hb.size)); clear hb1 hloc)
                  go_ret
                  exact ⟨rfl, HB1.out⟩
                · rw [if_neg (by omega)] at hX
                  have HX : Hid (checkGo (l.drop (j + 1)) ((d + 1 : Nat) : Int) = R) := hX
                  clear hX
                  go_wp2_with (go_at_call 44; refine (HCK.out _ (L.below (L.below hE hb) (new1 _ _))).mono ?_; rintro e w1 ⟨rfl, hb1⟩; have hloc := blk_below (heap_alloc_new wr (.cells #[.int .i64 2, .string t, .int .i64 n, .int .i64 m, .bool f] 26)) hb1; have l0 : w1.cell? ⟨wr.heap.size, 0, none⟩ = some (.int .i64 2) := blk_cell hloc 0; have HB1 := Lib.hid (hb.trans ((chain (new1 _ _) hb1).mono hb.size)); clear hb1 hloc)
                  go_roundw
                  case rel => exact ⟨j + 1, d + 1, by go_num, by go_num, by omega, by omega, HX, HB1.out⟩
                  case measure => simp [intOf]; omega
              by_cases k3 : k = 3
              · subst k3
                have hX := HX.out
                rw [show deeper ⟨3, t, n, m, f⟩ (d : Int) = (d : Int) - 1 from rfl] at hX
                by_cases hd0 : d = 0
                · subst hd0
                  rw [if_pos (by omega)] at hX
                  subst hX
                  go_wp2_with (go_at_call 44; refine (HCK.out _ (L.below (L.below hE hb) (new1 _ _))).mono ?_; rintro e w1 ⟨rfl, hb1⟩; have hloc := blk_below (heap_alloc_new wr (.cells #[.int .i64 3, .string t, .int .i64 n, .int .i64 m, .bool f] 26)) hb1; have l0 : w1.cell? ⟨wr.heap.size, 0, none⟩ = some (.int .i64 3) := blk_cell hloc 0; have HB1 := Lib.hid (hb.trans ((chain (new1 _ _) hb1).mono hb.size)); clear hb1 hloc)
                  go_ret
                  exact ⟨rfl, HB1.out⟩
                · rw [if_neg (by omega), show ((d : Int) - 1) = ((d - 1 : Nat) : Int) from by omega] at hX
                  have HX := Lib.hid hX
                  have d1 : (0 : Int) < (d : Int) := by omega
                  clear hX
                  go_wp2_with (go_at_call 44; refine (HCK.out _ (L.below (L.below hE hb) (new1 _ _))).mono ?_; rintro e w1 ⟨rfl, hb1⟩; have hloc := blk_below (heap_alloc_new wr (.cells #[.int .i64 3, .string t, .int .i64 n, .int .i64 m, .bool f] 26)) hb1; have l0 : w1.cell? ⟨wr.heap.size, 0, none⟩ = some (.int .i64 3) := blk_cell hloc 0; have HB1 := Lib.hid (hb.trans ((chain (new1 _ _) hb1).mono hb.size)); clear hb1 hloc)
                  go_roundw
                  case rel => exact ⟨j + 1, d - 1, by go_num, by rw [show ((d : Int) - 1) = ((d - 1 : Nat) : Int) from by omega], by omega, by omega, HX, HB1.out⟩
                  case measure => simp [intOf]; omega
              · have hX := HX.out
                rw [show deeper ⟨k, t, n, m, f⟩ (d : Int) = (d : Int) from by simp [deeper, k2, k3], if_neg (by omega)] at hX
                have HX := Lib.hid hX
                clear hX
                go_wp2_with (go_at_call 44; refine (HCK.out _ (L.below (L.below hE hb) (new1 _ _))).mono ?_; rintro e w1 ⟨rfl, hb1⟩; have hloc := blk_below (heap_alloc_new wr (.cells #[.int .i64 k, .string t, .int .i64 n, .int .i64 m, .bool f] 26)) hb1; have l0 : w1.cell? ⟨wr.heap.size, 0, none⟩ = some (.int .i64 k) := blk_cell hloc 0; have HB1 := Lib.hid (hb.trans ((chain (new1 _ _) hb1).mono hb.size)); clear hb1 hloc)
                go_roundw
                case rel => exact ⟨j + 1, d, by go_num, by go_num, by omega, by omega, HX, HB1.out⟩
                case measure => simp [intOf]; omega
            · have hX := HX.out
              rw [if_pos hc] at hX
              subst hX
              go_wp2_with (go_at_call 44; refine (HCK.out _ (L.below (L.below hE hb) (new1 _ _))).mono ?_; rintro e w1 ⟨rfl, hb1⟩; have hloc := blk_below (heap_alloc_new wr (.cells #[.int .i64 k, .string t, .int .i64 n, .int .i64 m, .bool f] 26)) hb1; have l0 : w1.cell? ⟨wr.heap.size, 0, none⟩ = some (.int .i64 k) := blk_cell hloc 0; have HB1 := Lib.hid (hb.trans ((chain (new1 _ _) hb1).mono hb.size)); clear hb1 hloc)
              go_ret
              exact ⟨rfl, HB1.out⟩
          · have hjl : j = l.length := by omega
            have hX := HX.out
            rw [hjl, List.drop_length] at hX
            unfold checkGo at hX
            clear HX hjl
            by_cases hd0 : (d : Int) > 0
            · rw [if_pos hd0] at hX
              subst hX
              have hd1 : (0 : Int) < (d : Int) := hd0
              go_wp2_with fail
              go_ret
              exact ⟨rfl, hb⟩
            · rw [if_neg hd0] at hX
              subst hX
              have hd1 : ¬ (0 : Int) < (d : Int) := hd0
              go_wp2_with fail
              go_ret
              exact ⟨rfl, hb⟩
end Go.Proofs.YtljgpcaljedhpaaDoor
