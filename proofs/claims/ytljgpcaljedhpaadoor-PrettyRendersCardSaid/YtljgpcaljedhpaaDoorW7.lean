/- step: Text, Tab. -/
import Derived.Test.YtljgpcaljedhpaaDoorW6
namespace Go.Proofs.YtljgpcaljedhpaaDoor
open Go.RowKit

/-- What a step is given: the operations, the state, the place. -/
structure Given (E : World → Prop) (w0 : World) (g : Nat) (A : Option Addr) (l : List Op) (cap : Nat) (W M : Int) (bv : Value) (ps : List Nat) (s : St) (i : Nat) (x : Op) (w : World) : Prop where
  hE : E w0
  ops : OpsIn w0 A l
  rep : Rep w0 g (.slice A l.length cap) W M bv ps s w
  good : Good s
  ok : ∀ x ∈ l, okOp x ∧ x.text.size ≤ 20000
  len : l.length ≤ 4000
  hcap : l.length ≤ cap
  hx : l[i]? = some x
  ne : 0 < ps.length
  few : ps.length ≤ 10000

/-- What the first two statements of a step read. -/
theorem Given.reads {E : World → Prop} {w0 : World} {g : Nat} {A : Option Addr} {l : List Op} {cap : Nat} {W M : Int} {bv : Value} {ps : List Nat} {s : St} {i : Nat} {x : Op} {w : World} (h : Given E w0 g A l cap W M bv ps s i x w) :
    ∃ ad rb capb k p top, A = some ad ∧ bv = .slice (some ⟨rb, 0, none⟩) (k + 1) capb ∧ ps.length = k + 1 ∧ k + 1 ≤ capb ∧ ps[k]? = some p ∧ s.blocks[k]? = some top ∧ topOf s = top ∧ i < l.length ∧
      w.cell? ⟨g, 0, none⟩ = some (.slice (some ad) l.length cap) ∧ w.cell? ⟨g, 4, none⟩ = some (.int .i64 s.at_) ∧ w.cell? ⟨g, 6, none⟩ = some (.slice (some ⟨rb, 0, none⟩) (k + 1) capb) ∧
      w.cell? ⟨rb, k, none⟩ = some (.pointer (some ⟨p, 0, none⟩)) ∧
      w.cell? (ad.add (i * 5)) = some (.int .i64 x.kind) ∧ w.cell? ⟨(ad.add (i * 5)).block, (ad.add (i * 5)).off + 1, none⟩ = some (.string x.text) ∧
      w.cell? ⟨(ad.add (i * 5)).block, (ad.add (i * 5)).off + 2, none⟩ = some (.int .i64 x.n) ∧ w.cell? ⟨(ad.add (i * 5)).block, (ad.add (i * 5)).off + 3, none⟩ = some (.int .i64 x.m) ∧
      w.cell? ⟨(ad.add (i * 5)).block, (ad.add (i * 5)).off + 4, none⟩ = some (.bool x.flag) := by
  obtain ⟨k, hk⟩ : ∃ k, ps.length = k + 1 := ⟨ps.length - 1, by have := h.ne; omega⟩
  obtain ⟨rb, capb, hbv, _, _⟩ := h.rep.bl.form h.ne
  obtain ⟨p, hp⟩ : ∃ p, ps[k]? = some p := ⟨_, List.getElem?_eq_getElem (by omega)⟩
  have hlb := h.rep.len
  obtain ⟨top, htop⟩ : ∃ top, s.blocks[k]? = some top := ⟨_, List.getElem?_eq_getElem (by omega)⟩
  have hi : i < l.length := (List.getElem?_eq_some_iff.1 h.hx).1
  obtain ⟨ad, hA, ho, hl⟩ := h.ops (by rintro rfl; simp at hi)
  have hcap := h.rep.bl
  rw [hbv] at hcap
  have hcap := own_le hcap
  obtain ⟨outv, hb, _⟩ := h.rep.row
  obtain ⟨f0, f1, f2, f3, f4, f5, f6⟩ := lay_cell hb
  have hrow := h.rep.bl.cells (g := rb) (by rw [hbv]; rfl) k (.pointer (some ⟨p, 0, none⟩)) (by rw [List.getElem?_map, hp]; rfl)
  rw [add_plain] at hrow
  obtain ⟨a0, a1, a2, a3, a4⟩ := (ho.below h.rep.below hl) i x h.hx
  rw [hk] at hbv hcap
  refine ⟨ad, rb, capb, k, p, top, hA, hbv, hk, hcap, hp, htop, ?_, hi, by rw [← hA]; exact f0, f4, by rw [← hbv]; exact f6, hrow, a0, a1, a2, a3, a4⟩
  unfold topOf
  rw [List.getLastD_eq_getLast?, List.getLast?_eq_getElem?, show s.blocks.length - 1 = k by omega, htop]
  rfl

set_option maxRecDepth 100000 in
set_option maxHeartbeats 4000000 in
theorem step_text {E : World → Prop} (L : LibC E) (w0 : World) (g : Nat) (A : Option Addr) (l : List Op) (cap : Nat) (W M : Int) (bv : Value) (ps : List Nat) (s : St) (i : Nat) (x : Op) (w : World) (h : Given E w0 g A l cap W M bv ps s i x w)
    (hk : x.kind = 0 ∨ x.kind = 5) (hl : (putRaw s (writtenP x s.at_)).out.length ≤ 100000) :
    Calls Tryd.prog 32 #[.pointer (some ⟨g, 0, none⟩), .int .i64 i] w fun e w' => e = .returned (.tuple #[]) ∧ Rep w0 g (.slice A l.length cap) W M bv ps (putRaw s (writtenP x s.at_)) w' := by
  obtain ⟨ad, rb, capb, q, p, top, rfl, hbv, hq, hcb, hp, htop, _, hi, g0, g4, g6, hrow, a0, a1, a2, a3, a4⟩ := h.reads
  have hmem := h.ok x (List.mem_of_getElem? h.hx)
  have hg := h.good
  have c0 := hg.a0
  have c1 : s.at_ ≤ 100000 := by have := hg.a1; have := hg.len; omega
  have n0 : 0 ≤ s.lines := by have := hg.ln; omega
  have n1 : s.lines ≤ 274877906944 := by have := hg.ln; have := hg.len; have := List.count_le_length (a := (10 : UInt8)) (l := s.out); omega
  obtain ⟨kd, t, n, m, f⟩ := x
  simp only at *
  have h36 := fun W => written_any L kd t n m f s.at_ W c0 (by omega) hmem.1
  have hput := fun (W1 : World) (hr : Rep w0 g (.slice (some ad) l.length cap) W M bv ps s W1) => put_any L w0 g _ W M bv ps s (writtenP ⟨kd, t, n, m, f⟩ s.at_) W1 hr hl c0 (by omega) n0 n1
  generalize writtenP ⟨kd, t, n, m, f⟩ s.at_ = T at *
  have H36 := Lib.hid h36
  have HPUT := Lib.hid hput
  have HR := Lib.hid h.rep
  have i0 : (0 : Int) ≤ (i : Int) := Int.natCast_nonneg _
  have i1 : (i : Int) < (l.length : Int) := by omega
  have q0 : (0 : Int) ≤ (q : Int) := Int.natCast_nonneg _
  have q1 : (q : Int) < (q : Int) + 1 := by omega
  have q2 : (q : Int) ≤ 10000 := by have := h.few; omega
  have z4 : ∀ o, (w.alloc o).cell? ⟨g, 4, none⟩ = some (.int .i64 s.at_) := fun o => (World.cell?_alloc_lt w o _ (World.block_lt_of_cell? w _ g4)).trans g4
  have z6 : ∀ o, (w.alloc o).cell? ⟨g, 6, none⟩ = some (.slice (some ⟨rb, 0, none⟩) (q + 1) capb) := fun o => (World.cell?_alloc_lt w o _ (World.block_lt_of_cell? w _ g6)).trans g6
  have zr : ∀ o, (w.alloc o).cell? ⟨rb, q, none⟩ = some (.pointer (some ⟨p, 0, none⟩)) := fun o => (World.cell?_alloc_lt w o _ (World.block_lt_of_cell? w _ hrow)).trans hrow
  clear h36 hput h hg hmem hp htop hbv hq hl
  rcases hk with rfl | rfl
  · go_enter Tryd.func32, Tryd.ntmps32
    go_wp2_with fail
    go_quiet (fail)
    go_wp2_with fail
    obtain ⟨W1, hW1⟩ : ∃ W1, (w.alloc (.cells #[.int .i64 0, .string t, .int .i64 n, .int .i64 m, .bool f] 26)).drewN nq = W1 := ⟨_, rfl⟩
    rw [hW1]
    have hb1 : Below w.heap.size w W1 := by rw [← hW1]; exact new1d _ _ _
    have hloc : W1.heap[w.heap.size]? = some (.cells #[.int .i64 0, .string t, .int .i64 n, .int .i64 m, .bool f] 26 (0, 0)) := by rw [← hW1]; exact heap_alloc_new w _
    have HR1 := Lib.hid (Rep.bel HR.out hb1)
    have y4 := ext_cell ((hb1.cell (World.block_lt_of_cell? w _ g4)).trans g4)
    have l0 : W1.cell? ⟨w.heap.size, 0, none⟩ = _ := blk_cell hloc 0
    have l1 : W1.cell? ⟨w.heap.size, 1, none⟩ = _ := blk_cell hloc 1
    have l2 : W1.cell? ⟨w.heap.size, 2, none⟩ = _ := blk_cell hloc 2
    have l3 : W1.cell? ⟨w.heap.size, 3, none⟩ = _ := blk_cell hloc 3
    have l4 : W1.cell? ⟨w.heap.size, 4, none⟩ = _ := blk_cell hloc 4
    have x0 := ext_cell l0
    have x1 := ext_cell l1
    have x2 := ext_cell l2
    have x3 := ext_cell l3
    have x4 := ext_cell l4
    have hne := ext_some W1
    have HRx := Lib.hid (fun x : Ext W1 => Rep.bel HR1.out x.hb)
    clear hW1 hloc hb1 l0 l1 l2 l3 l4 z4 z6 zr a0 a1 a2 a3 a4 g0 g4 g6 hrow
    refine wp_region_ext_tail (w0 := W1) 7 (by kernel_rfl) (by kernel_rfl) (Below.refl _ _) ?_
    simp only [List.take_succ_cons, List.take_zero, List.drop_succ_cons, List.drop_zero]
    repeat (go_big_quiet_step ((go_at_call 36; exact (H36.out _).mono fun _ _ ⟨he, h⟩ => ⟨he, ⟨_, (Ext.hb _).trans (h.mono (Ext.hb _).size)⟩, rfl⟩)))
    refine wpQuiet_nil ?_
    intro x
    go_wp2_with (go_at_call 52; (with_reducible refine (HPUT.out _ (HRx.out x)).mono ?_); rintro e w4 ⟨rfl, hR4⟩; have HR4 := Lib.hid hR4; clear hR4)
    go_end0
    exact ⟨rfl, HR4.out⟩
  · go_enter Tryd.func32, Tryd.ntmps32
    go_wp2_with fail
    go_quiet (fail)
    go_wp2_with fail
    obtain ⟨W1, hW1⟩ : ∃ W1, (w.alloc (.cells #[.int .i64 5, .string t, .int .i64 n, .int .i64 m, .bool f] 26)).drewN nq = W1 := ⟨_, rfl⟩
    rw [hW1]
    have hb1 : Below w.heap.size w W1 := by rw [← hW1]; exact new1d _ _ _
    have hloc : W1.heap[w.heap.size]? = some (.cells #[.int .i64 5, .string t, .int .i64 n, .int .i64 m, .bool f] 26 (0, 0)) := by rw [← hW1]; exact heap_alloc_new w _
    have HR1 := Lib.hid (Rep.bel HR.out hb1)
    have y4 := ext_cell ((hb1.cell (World.block_lt_of_cell? w _ g4)).trans g4)
    have l0 : W1.cell? ⟨w.heap.size, 0, none⟩ = _ := blk_cell hloc 0
    have l1 : W1.cell? ⟨w.heap.size, 1, none⟩ = _ := blk_cell hloc 1
    have l2 : W1.cell? ⟨w.heap.size, 2, none⟩ = _ := blk_cell hloc 2
    have l3 : W1.cell? ⟨w.heap.size, 3, none⟩ = _ := blk_cell hloc 3
    have l4 : W1.cell? ⟨w.heap.size, 4, none⟩ = _ := blk_cell hloc 4
    have x0 := ext_cell l0
    have x1 := ext_cell l1
    have x2 := ext_cell l2
    have x3 := ext_cell l3
    have x4 := ext_cell l4
    have hne := ext_some W1
    have HRx := Lib.hid (fun x : Ext W1 => Rep.bel HR1.out x.hb)
    clear hW1 hloc hb1 l0 l1 l2 l3 l4 z4 z6 zr a0 a1 a2 a3 a4 g0 g4 g6 hrow
    refine wp_region_ext_tail (w0 := W1) 7 (by kernel_rfl) (by kernel_rfl) (Below.refl _ _) ?_
    simp only [List.take_succ_cons, List.take_zero, List.drop_succ_cons, List.drop_zero]
    repeat (go_big_quiet_step ((go_at_call 36; exact (H36.out _).mono fun _ _ ⟨he, h⟩ => ⟨he, ⟨_, (Ext.hb _).trans (h.mono (Ext.hb _).size)⟩, rfl⟩)))
    refine wpQuiet_nil ?_
    intro x
    go_wp2_with (go_at_call 52; (with_reducible refine (HPUT.out _ (HRx.out x)).mono ?_); rintro e w4 ⟨rfl, hR4⟩; have HR4 := Lib.hid hR4; clear hR4)
    go_end0
    exact ⟨rfl, HR4.out⟩
end Go.Proofs.YtljgpcaljedhpaaDoor
