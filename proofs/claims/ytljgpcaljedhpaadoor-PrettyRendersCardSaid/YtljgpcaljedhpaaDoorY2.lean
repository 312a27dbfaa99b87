/- row and awake, walked. -/
import Derived.Test.YtljgpcaljedhpaaDoorX8
import Derived.Test.YtljgpcaljedhpaaDoorY0
import Derived.Test.YtljgpcaljedhpaaDoorX7
namespace Go.Proofs.YtljgpcaljedhpaaDoor
open Go.RowKit

def rowP (k : Int) : List Op := [openO ⟨#[40]⟩, textO ⟨#[97, 97]⟩, textO ⟨#[32]⟩, newlineO k, textO ⟨#[98, 98]⟩, textO ⟨#[32]⟩, newlineO k, textO ⟨#[99, 99]⟩, closeO ⟨#[41]⟩]

theorem ops_alloc (w : World) (l : List Op) (hl : l.length ≤ maxLen) : OpsIn (w.alloc (.cells (opsC l).toArray 26)) (some ⟨w.heap.size, 0, none⟩) l := by
  have h : (w.alloc (.cells (opsC l).toArray 26)).ownsRow w.heap.size 26 5 (.slice (some ⟨w.heap.size, 0, none⟩) l.length l.length) l.length (opsC l) :=
    ⟨opsC_len l, .inr ⟨w.heap.size, l.length, _, rfl, Nat.le_refl _, heap_alloc_new w _, Nat.le_refl _, hl, by simp [opsC_len], by rw [List.take_of_length_le (by simp [opsC_len])]⟩⟩
  exact (own_ops h).2.2

set_option maxRecDepth 100000 in
theorem row_any (k : Int) (w : World) : Calls Tryd.prog 22 #[.int .i64 k] w fun e w' => e = .returned (.slice (some ⟨w.heap.size, 0, none⟩) 9 9) ∧ OpsIn w' (some ⟨w.heap.size, 0, none⟩) (rowP k) ∧ Below w.heap.size w w' := by
  go_enter Tryd.func22, Tryd.ntmps22
  go_wp2_with fail
  go_ret
  exact ⟨rfl, ops_alloc w (rowP k) (show 9 ≤ maxLen by decide), new1 _ _⟩

theorem awake1 : ∃ s, RenderOk (rowP 0) 6 0 s ∧ s.out = [40, 97, 97, 10, 32, 98, 98, 10, 32, 99, 99, 41] := by
  have h : (stepsP 6 0 (rowP 0) { out := [], at_ := 0, lines := 0, blocks := [firstBk (rowP 0) 6 0] }).map (·.out) = some [40, 97, 97, 10, 32, 98, 98, 10, 32, 99, 99, 41] := by decide +kernel
  obtain ⟨s, h1, h2⟩ := Option.map_eq_some_iff.1 h
  exact ⟨s, ⟨by decide +kernel, by decide, by decide, by decide, by decide, h1⟩, h2⟩
theorem awake2 : ∃ s, RenderOk (rowP 1) 7 0 s ∧ s.out = [40, 97, 97, 32, 98, 98, 10, 32, 99, 99, 41] := by
  have h : (stepsP 7 0 (rowP 1) { out := [], at_ := 0, lines := 0, blocks := [firstBk (rowP 1) 7 0] }).map (·.out) = some [40, 97, 97, 32, 98, 98, 10, 32, 99, 99, 41] := by decide +kernel
  obtain ⟨s, h1, h2⟩ := Option.map_eq_some_iff.1 h
  exact ⟨s, ⟨by decide +kernel, by decide, by decide, by decide, by decide, h1⟩, h2⟩
theorem awake3 : widthP ⟨#[40, 97, 97, 32, 98, 98, 10, 32, 99, 99, 41]⟩ = 6 := by decide +kernel

theorem render_row1 {E : World → Prop} (L : LibC E) (A : Option Addr) (w : World) (hE : E w) (ho : OpsIn w A (rowP 0)) :
    Calls Tryd.prog 9 #[.slice A 9 9, .int .i64 6, .int .i64 0] w fun e w' => e = .returned (.tuple #[.string ⟨#[40, 97, 97, 10, 32, 98, 98, 10, 32, 99, 99, 41]⟩, .int .i64 0]) ∧ Below w.heap.size w w' := by
  obtain ⟨s, r, o⟩ := awake1
  have h := render_ok L A (rowP 0) 9 6 0 s w hE ho (show 9 ≤ 9 by decide) (show 9 ≤ 60000 by decide) (fun x hx => by
    have := (check_fine r.1).2.2.1
    have := bytesSum_mem hx
    omega) r
  rw [o] at h
  exact h
theorem render_row2 {E : World → Prop} (L : LibC E) (A : Option Addr) (w : World) (hE : E w) (ho : OpsIn w A (rowP 1)) :
    Calls Tryd.prog 9 #[.slice A 9 9, .int .i64 7, .int .i64 0] w fun e w' => e = .returned (.tuple #[.string ⟨#[40, 97, 97, 32, 98, 98, 10, 32, 99, 99, 41]⟩, .int .i64 0]) ∧ Below w.heap.size w w' := by
  obtain ⟨s, r, o⟩ := awake2
  have h := render_ok L A (rowP 1) 9 7 0 s w hE ho (show 9 ≤ 9 by decide) (show 9 ≤ 60000 by decide) (fun x hx => by
    have := (check_fine r.1).2.2.1
    have := bytesSum_mem hx
    omega) r
  rw [o] at h
  exact h
theorem width_row {E : World → Prop} (L : LibC E) (S : LibS E) (w : World) (hE : E w) :
    Calls Tryd.prog 13 #[.string ⟨#[40, 97, 97, 32, 98, 98, 10, 32, 99, 99, 41]⟩] w fun e w' => e = .returned (.int .i64 6) ∧ Below w.heap.size w w' := by
  have h := width_any L S ⟨#[40, 97, 97, 32, 98, 98, 10, 32, 99, 99, 41]⟩ w hE (by show 11 < 4294967281; decide)
  unfold WidthSays at h
  rw [awake3] at h
  exact h
end Go.Proofs.YtljgpcaljedhpaaDoor
