/- Width. -/
import Derived.Test.YtljgpcaljedhpaaDoorX6
import Derived.Lib.SplitLaws
namespace Go.Proofs.YtljgpcaljedhpaaDoor
open Go.RowKit

/-- The lines of a text. -/
def linesP (s : ByteArray) : List ByteArray := Lib.splitB ⟨#[10]⟩ 0 (Lib.countB s ⟨#[10]⟩) s
def widthGo : List ByteArray → Nat → Nat
  | [], m => m
  | x :: r, m => widthGo r (max m (Lib.runeCount x))
/-- How many characters the longest line has. -/
def widthP (s : ByteArray) : Nat := widthGo (linesP s) 0

/-- strings.Split at a line feed. -/
structure LibS (E : World → Prop) : Prop where
  spl : ∀ (s : ByteArray) (w : World), E w → s.size < 4294967281 → Calls Tryd.prog 38 #[.string s, .string ⟨#[10]⟩] w fun e w' =>
    e = .returned (.slice (some ⟨w.heap.size, 0, none⟩) (linesP s).length (linesP s).length) ∧ w' = w.alloc (.cells ((linesP s).map Value.string).toArray 9)

theorem split_sizes (sep : ByteArray) : ∀ (k : Nat) (s : ByteArray), ∀ x ∈ Lib.splitB sep 0 k s, x.size ≤ s.size
  | 0, s, x, h => by
    obtain rfl := List.mem_singleton.1 h
    exact Nat.le_refl _
  | k + 1, s, x, h => by
    unfold Lib.splitB at h
    split at h
    · obtain rfl := List.mem_singleton.1 h
      exact Nat.le_refl _
    · rcases List.mem_cons.1 h with rfl | h
      · simp; omega
      · refine Nat.le_trans (split_sizes sep k _ x h) ?_
        simp

/-- What Width answers. -/
def WidthSays (s : ByteArray) (w : World) (e : Ending) (w' : World) : Prop := e = .returned (.int .i64 (widthP s)) ∧ Below w.heap.size w w'

set_option maxRecDepth 100000 in
set_option maxHeartbeats 4000000 in
theorem width_any {E : World → Prop} (L : LibC E) (S : LibS E) (s : ByteArray) (w : World) (hE : E w) (hs : s.size < 4294967281) :
    Calls Tryd.prog 13 #[.string s] w (WidthSays s w) := by
  have hsp := S.spl s w hE hs
  have hsz := split_sizes ⟨#[10]⟩ (Lib.countB s ⟨#[10]⟩) s
  have hll : (linesP s).length ≤ 4294967281 := by
    unfold linesP
    rw [Lib.splitB_all ⟨#[10]⟩ (by decide) 0 _ s rfl]
    have := Lib.countB_le ⟨#[10]⟩ (by decide) s.size s (Nat.le_refl _)
    omega
  obtain ⟨R, hR⟩ : ∃ R, widthP s = R := ⟨_, rfl⟩
  have hpost : ∀ e w', (e = .returned (.int .i64 R) ∧ Below w.heap.size w w') → WidthSays s w e w' := fun e w' h => by rw [← hR] at h; exact h
  refine Calls.mono ?_ hpost
  unfold widthP at hR
  change ∀ x ∈ linesP s, _ at hsz
  generalize linesP s = l at *
  have HSP := Lib.hid hsp
  have HSZ := Lib.hid hsz
  have HR : Hid (widthGo (l.drop 0) 0 = R) := hR
  clear hsp hsz hR hpost
  go_enter Tryd.func13, Tryd.ntmps13
  go_wp2_with (go_at_call 38; refine HSP.out.mono ?_; rintro e w1 ⟨rfl, hw1⟩; have hb1 : Below w.heap.size w w1 := (by rw [hw1]; exact new1 w _); have HC := Lib.hid (show w1.heap[w.heap.size]? = some (.cells (l.map Value.string).toArray 9 (0, 0)) from by rw [hw1]; exact heap_alloc_new w _); clear hw1)
  go_loopw [3, 9] (fun v3 v9 w' => ∃ (j m : Nat), v9 = .int .i64 j ∧ v3 = .int .i64 m ∧ j ≤ l.length ∧ m ≤ s.size ∧ Hid (widthGo (l.drop j) m = R) ∧ Hid (Below w1.heap.size w1 w')) (fun _ v9 _ => l.length - (intOf v9).toNat)
  case atStart => exact ⟨0, 0, rfl, rfl, by omega, by omega, HR, Below.refl _ _⟩
  case round =>
    obtain ⟨j, m, rfl, rfl, hj, hm, HX, HB⟩ := hrel
    by_cases hlt : j < l.length
    · obtain ⟨x, hx⟩ : ∃ x, l[j]? = some x := ⟨_, List.getElem?_eq_getElem hlt⟩
      have hblk := blk_below HC.out HB.out
      have hcell : wr.cell? ⟨w.heap.size, j, none⟩ = some (.string x) := by rw [blk_cell hblk j]; simp [hx]
      have hxs := HSZ.out x (List.mem_of_getElem? hx)
      have hr := Lib.runeCount_le x
      have hdr : l.drop j = x :: l.drop (j + 1) := by
        rw [List.drop_eq_getElem_cons hlt]
        rw [List.getElem?_eq_getElem hlt] at hx
        injection hx with hx
        rw [hx]
      have hX := HX.out
      rw [hdr] at hX
      unfold widthGo at hX
      have hrc := fun W => L.rc x W (by omega)
      generalize Lib.runeCount x = r at *
      have HRC := Lib.hid hrc
      clear hdr HX hblk hx hrc
      by_cases hmr : m < r
      · rw [Nat.max_eq_right (by omega)] at hX
        have HX := Lib.hid hX
        have hmr' : (m : Int) < (r : Int) := by omega
        clear hX
        go_wp2_with (go_at_call 33; refine (HRC.out _).mono ?_; rintro e w2 ⟨rfl, hb2⟩)
        go_roundw
        case rel => exact ⟨j + 1, r, by go_num, rfl, by omega, by omega, HX, chain HB.out hb2⟩
        case measure => simp [intOf]; omega
      · rw [Nat.max_eq_left (by omega)] at hX
        have HX := Lib.hid hX
        have hmr' : (r : Int) ≤ (m : Int) := by omega
        clear hX
        go_wp2_with (go_at_call 33; refine (HRC.out _).mono ?_; rintro e w2 ⟨rfl, hb2⟩)
        go_roundw
        case rel => exact ⟨j + 1, m, by go_num, rfl, by omega, by omega, HX, chain HB.out hb2⟩
        case measure => simp [intOf]; omega
    · have hjl : j = l.length := by omega
      have hX := HX.out
      rw [hjl, List.drop_length] at hX
      unfold widthGo at hX
      subst hX
      clear HX hjl
      go_wp2_with fail
      go_ret
      exact ⟨rfl, chain hb1 HB.out⟩
end Go.Proofs.YtljgpcaljedhpaaDoor
