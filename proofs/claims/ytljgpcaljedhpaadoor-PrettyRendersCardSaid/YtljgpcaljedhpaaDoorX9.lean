/- Render, where Check says an error, or a width is out of range. -/
import Derived.Test.YtljgpcaljedhpaaDoorX8
namespace Go.Proofs.YtljgpcaljedhpaaDoor
open Go.RowKit

set_option linter.unusedSimpArgs false in
set_option maxRecDepth 100000 in
set_option maxHeartbeats 4000000 in
theorem render_check {E : World → Prop} (L : LibC E) (A : Option Addr) (l : List Op) (cap : Nat) (W M : Int) (w : World) (hE : E w) (hops : OpsIn w A l) (hl : l.length ≤ 60000) (ht : ∀ x ∈ l, x.text.size ≤ 140737488355328) (hc : checkP l ≠ 0) :
    Calls Tryd.prog 9 #[.slice A l.length cap, .int .i64 W, .int .i64 M] w fun e w' => e = .returned (.tuple #[.string ⟨#[]⟩, .int .i64 (checkP l)]) ∧ Below w.heap.size w w' := by
  have hck := fun (W1 : World) (hb : Below w.heap.size w W1) => checkAll_any L A l cap W1 (L.below hE hb) (hops.below hb) hl ht
  unfold CheckSays at hck
  generalize checkP l = c at *
  have HCK := Lib.hid hck
  have hmf : ∀ (fn : Fn) (first cap : Array Value) (w : World), (Instr.makeFunc fn first cap).run Tryd.prog w = .ok (.func fn first cap) w := fun _ _ _ _ => rfl
  clear hck hops ht
  go_enter_defers Tryd.func9, Tryd.ntmps9
  go_wp2_with (go_at_call 17; refine (HCK.out _ ((new1 w _).alloc (by simp) _)).mono ?_; rintro e w1 ⟨rfl, hb1⟩; have hbw : Below w.heap.size w w1 := chain ((new1 w _).alloc (by simp) _) hb1; have hn0 : w1.heap[w.heap.size]? = some (.cells #[.string ⟨#[]⟩] 9 (0, 0)) := blk_below (by rw [Below.heap_alloc _ _ _ (by simp)]; exact heap_alloc_new w _) hb1; have hn1 : w1.heap[w.heap.size + 1]? = some (.cells #[.int .i64 0] 28 (0, 0)) := blk_below (heap_alloc2 w _ _) hb1; have hn1' := fun u => blk_far hn1 (p := ⟨w.heap.size, 0, none⟩) (by show w.heap.size + 1 ≠ w.heap.size; omega) u; have p0 : w1.cell? ⟨w.heap.size, 0, none⟩ = some (.string ⟨#[]⟩) := blk_cell hn0 0; have pf0 := blk_frozen hn0; have p1 : ∀ u, (w1.setCell ⟨w.heap.size, 0, none⟩ u).cell? ⟨w.heap.size + 1, 0, none⟩ = some (.int .i64 0) := fun u => blk_cell (hn1' u) 0; have pf1 := fun u => blk_frozen (hn1' u); have HBW := Lib.hid hbw; have M0 := Lib.hid hn0; have M1 := Lib.hid hn1'; clear hb1 hbw hn0 hn1 hn1')
  have hr0 : ((w1.setCell ⟨w.heap.size, 0, none⟩ (.string ⟨#[]⟩)).setCell ⟨w.heap.size + 1, 0, none⟩ (.int .i64 c)).cell? ⟨w.heap.size, 0, none⟩ = some (.string ⟨#[]⟩) :=
    blk_cell (blk_far (blk_set M0.out 0 (.string ⟨#[]⟩)) (p := ⟨w.heap.size + 1, 0, none⟩) (by show w.heap.size ≠ w.heap.size + 1; omega) (.int .i64 c)) 0
  have hr1 : ((w1.setCell ⟨w.heap.size, 0, none⟩ (.string ⟨#[]⟩)).setCell ⟨w.heap.size + 1, 0, none⟩ (.int .i64 c)).cell? ⟨w.heap.size + 1, 0, none⟩ = some (.int .i64 c) :=
    blk_cell (blk_set (M1.out (.string ⟨#[]⟩)) 0 (.int .i64 c)) 0
  simp [bodyPostD, Leaves, settle, results, Tryd.results9, go_sem, hr0, hr1]
  exact (HBW.out.setCell (p := ⟨w.heap.size, 0, none⟩) (Nat.le_refl _) _).setCell (p := ⟨w.heap.size + 1, 0, none⟩) (Nat.le_succ _) _

set_option linter.unusedSimpArgs false in
set_option maxRecDepth 100000 in
set_option maxHeartbeats 4000000 in
theorem render_range {E : World → Prop} (L : LibC E) (A : Option Addr) (l : List Op) (cap : Nat) (W M : Int) (w : World) (hE : E w) (hops : OpsIn w A l) (hl : l.length ≤ 60000) (ht : ∀ x ∈ l, x.text.size ≤ 140737488355328) (hc : checkP l = 0) (hr : W < 1 ∨ 200 < W ∨ M < 0 ∨ 200 < M) :
    Calls Tryd.prog 9 #[.slice A l.length cap, .int .i64 W, .int .i64 M] w fun e w' => e = .returned (.tuple #[.string ⟨#[]⟩, .int .i64 1]) ∧ Below w.heap.size w w' := by
  have hck := fun (W1 : World) (hb : Below w.heap.size w W1) => checkAll_any L A l cap W1 (L.below hE hb) (hops.below hb) hl ht
  unfold CheckSays at hck
  rw [hc] at hck
  have HCK := Lib.hid hck
  have hmf : ∀ (fn : Fn) (first cap : Array Value) (w : World), (Instr.makeFunc fn first cap).run Tryd.prog w = .ok (.func fn first cap) w := fun _ _ _ _ => rfl
  have hr' : ((W < 1 ∨ 200 < W) ∨ M < 0) ∨ 200 < M := by omega
  clear hck hops ht hr
  go_enter_defers Tryd.func9, Tryd.ntmps9
  go_wp2_with (go_at_call 17; refine (HCK.out _ ((new1 w _).alloc (by simp) _)).mono ?_; rintro e w1 ⟨rfl, hb1⟩; have hbw : Below w.heap.size w w1 := chain ((new1 w _).alloc (by simp) _) hb1; have hn0 : w1.heap[w.heap.size]? = some (.cells #[.string ⟨#[]⟩] 9 (0, 0)) := blk_below (by rw [Below.heap_alloc _ _ _ (by simp)]; exact heap_alloc_new w _) hb1; have hn1 : w1.heap[w.heap.size + 1]? = some (.cells #[.int .i64 0] 28 (0, 0)) := blk_below (heap_alloc2 w _ _) hb1; have hn1' := fun u => blk_far hn1 (p := ⟨w.heap.size, 0, none⟩) (by show w.heap.size + 1 ≠ w.heap.size; omega) u; have p0 : w1.cell? ⟨w.heap.size, 0, none⟩ = some (.string ⟨#[]⟩) := blk_cell hn0 0; have pf0 := blk_frozen hn0; have p1 : ∀ u, (w1.setCell ⟨w.heap.size, 0, none⟩ u).cell? ⟨w.heap.size + 1, 0, none⟩ = some (.int .i64 0) := fun u => blk_cell (hn1' u) 0; have pf1 := fun u => blk_frozen (hn1' u); have HBW := Lib.hid hbw; have M0 := Lib.hid hn0; have M1 := Lib.hid hn1'; clear hb1 hbw hn0 hn1 hn1')
  all_goals
    have hr0 : ((w1.setCell ⟨w.heap.size, 0, none⟩ (.string ⟨#[]⟩)).setCell ⟨w.heap.size + 1, 0, none⟩ (.int .i64 1)).cell? ⟨w.heap.size, 0, none⟩ = some (.string ⟨#[]⟩) :=
      blk_cell (blk_far (blk_set M0.out 0 (.string ⟨#[]⟩)) (p := ⟨w.heap.size + 1, 0, none⟩) (by show w.heap.size ≠ w.heap.size + 1; omega) (.int .i64 1)) 0
    have hr1 : ((w1.setCell ⟨w.heap.size, 0, none⟩ (.string ⟨#[]⟩)).setCell ⟨w.heap.size + 1, 0, none⟩ (.int .i64 1)).cell? ⟨w.heap.size + 1, 0, none⟩ = some (.int .i64 1) :=
      blk_cell (blk_set (M1.out (.string ⟨#[]⟩)) 0 (.int .i64 1)) 0
    simp [bodyPostD, Leaves, settle, results, Tryd.results9, go_sem, hr0, hr1]
    exact (HBW.out.setCell (p := ⟨w.heap.size, 0, none⟩) (Nat.le_refl _) _).setCell (p := ⟨w.heap.size + 1, 0, none⟩) (Nat.le_succ _) _
end Go.Proofs.YtljgpcaljedhpaaDoor
