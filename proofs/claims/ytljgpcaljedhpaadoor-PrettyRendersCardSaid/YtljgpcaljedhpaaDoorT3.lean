/- A step, where the text grows too long: it panics. -/
import Derived.Test.YtljgpcaljedhpaaDoorT2
namespace Go.Proofs.YtljgpcaljedhpaaDoor
open Go.RowKit

set_option maxRecDepth 100000 in
set_option maxHeartbeats 4000000 in
theorem over_text {E : World → Prop} (L : LibC E) (w0 : World) (g : Nat) (A : Option Addr) (l : List Op) (cap : Nat) (W M : Int) (bv : Value) (ps : List Nat) (s : St) (i : Nat) (x : Op) (w : World) (h : Given E w0 g A l cap W M bv ps s i x w)
    (hk : x.kind = 0 ∨ x.kind = 5) (hl : 100000 < (putRaw s (writtenP x s.at_)).out.length) :
    Calls Tryd.prog 32 #[.pointer (some ⟨g, 0, none⟩), .int .i64 i] w (LargeSays w0) := by
  obtain ⟨ad, rb, capb, q, p, top, rfl, hbv, hq, hcb, hp, htop, _, hi, g0, g4, g6, hrow, a0, a1, a2, a3, a4⟩ := h.reads
  have hmem := h.ok x (List.mem_of_getElem? h.hx)
  have hg := h.good
  have c0 := hg.a0
  have c1 : s.at_ ≤ 100000 := by have := hg.a1; have := hg.len; omega
  have n0 : 0 ≤ s.lines := by have := hg.ln; omega
  have n1 : s.lines ≤ 274877906944 := by have := hg.ln; have := hg.len; have := List.count_le_length (a := (10 : UInt8)) (l := s.out); omega
  obtain ⟨kd, t, n, m, f⟩ := x
  simp only at *
  have h36 := fun W => written_any L kd t n m f s.at_ W c0 (by omega) hmem.1
  have hput := fun (W1 : World) (hr : Rep w0 g (.slice (some ad) l.length cap) W M bv ps s W1) => put_over L w0 g _ W M bv ps s (writtenP ⟨kd, t, n, m, f⟩ s.at_) W1 hr hl hg.len (by have := written_size ⟨kd, t, n, m, f⟩ s.at_ c0 hmem.1 hmem.2; omega) c0 (by omega) n0 n1
  generalize writtenP ⟨kd, t, n, m, f⟩ s.at_ = T at *
  have H36 := Lib.hid h36
  have HPUT := Lib.hid hput
  have HR := Lib.hid h.rep
  have i0 : (0 : Int) ≤ (i : Int) := Int.natCast_nonneg _
  have i1 : (i : Int) < (l.length : Int) := by omega
  have q0 : (0 : Int) ≤ (q : Int) := Int.natCast_nonneg _
  have q1 : (q : Int) < (q : Int) + 1 := by omega
  have q2 : (q : Int) ≤ 10000 := by have := h.few; omega
  have z4 : ∀ o, (w.alloc o).cell? ⟨g, 4, none⟩ = some (.int .i64 s.at_) := fun o => (World.cell?_alloc_lt w o _ (World.block_lt_of_cell? w _ g4)).trans g4
  have z6 : ∀ o, (w.alloc o).cell? ⟨g, 6, none⟩ = some (.slice (some ⟨rb, 0, none⟩) (q + 1) capb) := fun o => (World.cell?_alloc_lt w o _ (World.block_lt_of_cell? w _ g6)).trans g6
  have zr : ∀ o, (w.alloc o).cell? ⟨rb, q, none⟩ = some (.pointer (some ⟨p, 0, none⟩)) := fun o => (World.cell?_alloc_lt w o _ (World.block_lt_of_cell? w _ hrow)).trans hrow
  clear h36 hput h hg hmem hp htop hbv hq hl
  rcases hk with rfl | rfl
  · go_enter Tryd.func32, Tryd.ntmps32
    go_wp2_with fail
    go_quiet (fail)
    go_wp2_with fail
    obtain ⟨W1, hW1⟩ : ∃ W1, (w.alloc (.cells #[.int .i64 0, .string t, .int .i64 n, .int .i64 m, .bool f] 26)).drewN nq = W1 := ⟨_, rfl⟩
    rw [hW1]
    have hb1 : Below w.heap.size w W1 := by rw [← hW1]; exact new1d _ _ _
    have hloc : W1.heap[w.heap.size]? = some (.cells #[.int .i64 0, .string t, .int .i64 n, .int .i64 m, .bool f] 26 (0, 0)) := by rw [← hW1]; exact heap_alloc_new w _
    have HR1 := Lib.hid (Rep.bel HR.out hb1)
    have y4 := ext_cell ((hb1.cell (World.block_lt_of_cell? w _ g4)).trans g4)
    have l0 : W1.cell? ⟨w.heap.size, 0, none⟩ = _ := blk_cell hloc 0
    have l1 : W1.cell? ⟨w.heap.size, 1, none⟩ = _ := blk_cell hloc 1
    have l2 : W1.cell? ⟨w.heap.size, 2, none⟩ = _ := blk_cell hloc 2
    have l3 : W1.cell? ⟨w.heap.size, 3, none⟩ = _ := blk_cell hloc 3
    have l4 : W1.cell? ⟨w.heap.size, 4, none⟩ = _ := blk_cell hloc 4
    have x0 := ext_cell l0
    have x1 := ext_cell l1
    have x2 := ext_cell l2
    have x3 := ext_cell l3
    have x4 := ext_cell l4
    have hne := ext_some W1
    have HRx := Lib.hid (fun x : Ext W1 => Rep.bel HR1.out x.hb)
    clear hW1 hloc hb1 l0 l1 l2 l3 l4 z4 z6 zr a0 a1 a2 a3 a4 g0 g4 g6 hrow
    refine wp_region_ext_tail (w0 := W1) 7 (by kernel_rfl) (by kernel_rfl) (Below.refl _ _) ?_
    simp only [List.take_succ_cons, List.take_zero, List.drop_succ_cons, List.drop_zero]
    repeat (go_big_quiet_step ((go_at_call 36; exact (H36.out _).mono fun _ _ ⟨he, h⟩ => ⟨he, ⟨_, (Ext.hb _).trans (h.mono (Ext.hb _).size)⟩, rfl⟩)))
    refine wpQuiet_nil ?_
    intro x
    go_wp2_with (go_at_call 52; (with_reducible refine (HPUT.out _ (HRx.out x)).mono ?_); rintro e w4 ⟨rfl, hR4⟩)
    exact ⟨rfl, rfl, hR4⟩
  · go_enter Tryd.func32, Tryd.ntmps32
    go_wp2_with fail
    go_quiet (fail)
    go_wp2_with fail
    obtain ⟨W1, hW1⟩ : ∃ W1, (w.alloc (.cells #[.int .i64 5, .string t, .int .i64 n, .int .i64 m, .bool f] 26)).drewN nq = W1 := ⟨_, rfl⟩
    rw [hW1]
    have hb1 : Below w.heap.size w W1 := by rw [← hW1]; exact new1d _ _ _
    have hloc : W1.heap[w.heap.size]? = some (.cells #[.int .i64 5, .string t, .int .i64 n, .int .i64 m, .bool f] 26 (0, 0)) := by rw [← hW1]; exact heap_alloc_new w _
    have HR1 := Lib.hid (Rep.bel HR.out hb1)
    have y4 := ext_cell ((hb1.cell (World.block_lt_of_cell? w _ g4)).trans g4)
    have l0 : W1.cell? ⟨w.heap.size, 0, none⟩ = _ := blk_cell hloc 0
    have l1 : W1.cell? ⟨w.heap.size, 1, none⟩ = _ := blk_cell hloc 1
    have l2 : W1.cell? ⟨w.heap.size, 2, none⟩ = _ := blk_cell hloc 2
    have l3 : W1.cell? ⟨w.heap.size, 3, none⟩ = _ := blk_cell hloc 3
    have l4 : W1.cell? ⟨w.heap.size, 4, none⟩ = _ := blk_cell hloc 4
    have x0 := ext_cell l0
    have x1 := ext_cell l1
    have x2 := ext_cell l2
    have x3 := ext_cell l3
    have x4 := ext_cell l4
    have hne := ext_some W1
    have HRx := Lib.hid (fun x : Ext W1 => Rep.bel HR1.out x.hb)
    clear hW1 hloc hb1 l0 l1 l2 l3 l4 z4 z6 zr a0 a1 a2 a3 a4 g0 g4 g6 hrow
    refine wp_region_ext_tail (w0 := W1) 7 (by kernel_rfl) (by kernel_rfl) (Below.refl _ _) ?_
    simp only [List.take_succ_cons, List.take_zero, List.drop_succ_cons, List.drop_zero]
    repeat (go_big_quiet_step ((go_at_call 36; exact (H36.out _).mono fun _ _ ⟨he, h⟩ => ⟨he, ⟨_, (Ext.hb _).trans (h.mono (Ext.hb _).size)⟩, rfl⟩)))
    refine wpQuiet_nil ?_
    intro x
    go_wp2_with (go_at_call 52; (with_reducible refine (HPUT.out _ (HRx.out x)).mono ?_); rintro e w4 ⟨rfl, hR4⟩)
    exact ⟨rfl, rfl, hR4⟩
set_option maxRecDepth 100000 in
set_option maxHeartbeats 4000000 in
theorem over_close {E : World → Prop} (L : LibC E) (w0 : World) (g : Nat) (A : Option Addr) (l : List Op) (cap : Nat) (W M : Int) (bv : Value) (ps : List Nat) (s : St) (i : Nat) (x : Op) (w : World) (h : Given E w0 g A l cap W M bv ps s i x w)
    (hk : x.kind = 3) (hl : 100000 < (putRaw s x.text).out.length) (hts : x.text.size ≤ 20000) :
    Calls Tryd.prog 32 #[.pointer (some ⟨g, 0, none⟩), .int .i64 i] w (LargeSays w0) := by
  obtain ⟨ad, rb, capb, q, p, top, rfl, hbv, hq, hcb, hp, htop, _, hi, g0, g4, g6, hrow, a0, a1, a2, a3, a4⟩ := h.reads
  have hg := h.good
  have c0 := hg.a0
  have c1 : s.at_ ≤ 100000 := by have := hg.a1; have := hg.len; omega
  have n0 : 0 ≤ s.lines := by have := hg.ln; omega
  have n1 : s.lines ≤ 274877906944 := by have := hg.ln; have := hg.len; have := List.count_le_length (a := (10 : UInt8)) (l := s.out); omega
  obtain ⟨kd, t, n, m, f⟩ := x
  simp only at *
  subst hbv
  have hput := fun (W1 : World) (hr : Rep w0 g (.slice (some ad) l.length cap) W M (.slice (some ⟨rb, 0, none⟩) (q + 1) capb) ps s W1) => put_over L w0 g _ W M _ ps s t W1 hr hl hg.len (by omega) c0 (by omega) n0 n1
  have HPUT := Lib.hid hput
  have HR := Lib.hid h.rep
  have HQ := Lib.hid hq
  have i0 : (0 : Int) ≤ (i : Int) := Int.natCast_nonneg _
  have i1 : (i : Int) < (l.length : Int) := by omega
  have q0 : (0 : Int) ≤ (q : Int) := Int.natCast_nonneg _
  have q1 : (q : Int) < (q : Int) + 1 := by omega
  have q2 : (q : Int) ≤ 10000 := by have := h.few; omega
  have q3 : (q : Int) ≤ (capb : Int) := by omega
  have z6 : ∀ o, (w.alloc o).cell? ⟨g, 6, none⟩ = some (.slice (some ⟨rb, 0, none⟩) (q + 1) capb) := fun o => (World.cell?_alloc_lt w o _ (World.block_lt_of_cell? w _ g6)).trans g6
  have zr : ∀ o, (w.alloc o).cell? ⟨rb, q, none⟩ = some (.pointer (some ⟨p, 0, none⟩)) := fun o => (World.cell?_alloc_lt w o _ (World.block_lt_of_cell? w _ hrow)).trans hrow
  clear hput h hg hp htop hq hl
  subst hk
  go_enter Tryd.func32, Tryd.ntmps32
  go_wp2_with fail
  go_quiet (fail)
  go_wp2_with fail
  refine (HPUT.out _ ((Rep.bel HR.out (new1 w _)).drewN nq)).mono ?_
  rintro e w2 ⟨rfl, hR2⟩
  exact ⟨rfl, rfl, hR2⟩

set_option maxRecDepth 100000 in
set_option maxHeartbeats 4000000 in
theorem over_open {E : World → Prop} (L : LibC E) (w0 : World) (g : Nat) (A : Option Addr) (l : List Op) (cap : Nat) (W M : Int) (bv : Value) (ps : List Nat) (s : St) (i : Nat) (x : Op) (w : World) (h : Given E w0 g A l cap W M bv ps s i x w)
    (hk : x.kind = 2) (hl : 100000 < (putRaw s x.text).out.length) (hts : x.text.size ≤ 20000) :
    Calls Tryd.prog 32 #[.pointer (some ⟨g, 0, none⟩), .int .i64 i] w (LargeSays w0) := by
  obtain ⟨ad, rb, capb, q, p, top, rfl, hbv, hq, hcb, hp, htop, htt, hi, g0, g4, g6, hrow, a0, a1, a2, a3, a4⟩ := h.reads
  have hg := h.good
  have c0 := hg.a0
  have c1 : s.at_ ≤ 100000 := by have := hg.a1; have := hg.len; omega
  have n0 : 0 ≤ s.lines := by have := hg.ln; omega
  have n1 : s.lines ≤ 274877906944 := by have := hg.ln; have := hg.len; have := List.count_le_length (a := (10 : UInt8)) (l := s.out); omega
  obtain ⟨kd, t, n, m, f⟩ := x
  simp only at *
  have hput := fun (W1 : World) (hr : Rep w0 g (.slice (some ad) l.length cap) W M bv ps s W1) => put_over L w0 g _ W M _ ps s t W1 hr hl hg.len (by omega) c0 (by omega) n0 n1
  have HPL := Lib.hid h.few
  obtain ⟨t67, ti0, ti1, ti2, ti3⟩ := info_parts info67
  have T0 := Lib.hid ti0
  have T1 := Lib.hid ti1
  have T2 := Lib.hid ti2
  have T3 := Lib.hid ti3
  have HPUT := Lib.hid hput
  have HR := Lib.hid h.rep
  have HQ := Lib.hid hq
  have HP := Lib.hid hp
  have HT := Lib.hid htop
  have HBV := Lib.hid hbv
  have i0 : (0 : Int) ≤ (i : Int) := Int.natCast_nonneg _
  have i1 : (i : Int) < (l.length : Int) := by omega
  have i2 : (i : Int) ≤ 4000 := by have := h.len; omega
  have q0 : (0 : Int) ≤ (q : Int) := Int.natCast_nonneg _
  have q1 : (q : Int) < (q : Int) + 1 := by omega
  have q2 : (q : Int) ≤ 10000 := by have := h.few; omega
  have z6 : ∀ o, (w.alloc o).cell? ⟨g, 6, none⟩ = some (.slice (some ⟨rb, 0, none⟩) (q + 1) capb) := fun o => (World.cell?_alloc_lt w o _ (World.block_lt_of_cell? w _ g6)).trans g6
  have zr : ∀ o, (w.alloc o).cell? ⟨rb, q, none⟩ = some (.pointer (some ⟨p, 0, none⟩)) := fun o => (World.cell?_alloc_lt w o _ (World.block_lt_of_cell? w _ hrow)).trans hrow
  have zg : ∀ o, (w.alloc o).cell? ⟨g, 4, none⟩ = some (.int .i64 s.at_) := fun o => (World.cell?_alloc_lt w o _ (World.block_lt_of_cell? w _ g4)).trans g4
  clear h hg hp htop hbv hq htt hput hl ti0 ti1 ti2 ti3
  subst hk
  go_enter Tryd.func32, Tryd.ntmps32
  go_wp2_with fail
  go_quiet (fail)
  go_wp2_with fail
  obtain ⟨W1, hW1⟩ : ∃ W1, (w.alloc (.cells #[.int .i64 2, .string t, .int .i64 n, .int .i64 m, .bool f] 26)).drewN nq = W1 := ⟨_, rfl⟩
  rw [hW1]
  have hb1 : Below w.heap.size w W1 := by rw [← hW1]; exact new1d _ _ _
  have hloc : W1.heap[w.heap.size]? = some (.cells #[.int .i64 2, .string t, .int .i64 n, .int .i64 m, .bool f] 26 (0, 0)) := by rw [← hW1]; exact heap_alloc_new w _
  have HR1 := Lib.hid (Rep.bel HR.out hb1)
  obtain ⟨_, hg1, _⟩ := HR1.out.row
  have hlg : w.heap.size ≠ g := by
    rintro rfl
    rw [hloc] at hg1
    injection hg1 with hg1
    injection hg1 with _ ht
    exact absurd ht (by decide)
  have HLOC := Lib.hid hloc
  have HLG := Lib.hid hlg
  clear hW1 hb1 hg1 hlg hloc z6 zr zg a0 a1 a2 a3 a4 g0 g4 g6 hrow
  refine (HPUT.out W1 HR1.out).mono ?_
  rintro e w2 ⟨rfl, hR2⟩
  exact ⟨rfl, rfl, hR2⟩

set_option maxRecDepth 100000 in
set_option maxHeartbeats 4000000 in
theorem over_newline {E : World → Prop} (L : LibC E) (w0 : World) (g : Nat) (A : Option Addr) (l : List Op) (cap : Nat) (W M : Int) (bv : Value) (ps : List Nat) (s : St) (i : Nat) (x : Op) (w : World) (h : Given E w0 g A l cap W M bv ps s i x w)
    (hk : x.kind = 1) (hb : breaksP W s (topOf s) x (l.drop (i + 1)) = true) (hs1 : brokenP (topOf s) s = none) :
    Calls Tryd.prog 32 #[.pointer (some ⟨g, 0, none⟩), .int .i64 i] w (LargeSays w0) := by
  obtain ⟨ad, rb, capb, q, p, top, rfl, hbv, hq, hcb, hp, htop, htt, hi, g0, g4, g6, hrow, a0, a1, a2, a3, a4⟩ := h.reads
  rw [htt] at hs1 hb
  have hg := h.good
  have c0 := hg.a0
  have c1 : s.at_ ≤ 100000 := by have := hg.a1; have := hg.len; omega
  obtain ⟨b1, b2⟩ := h.rep.blks q p top hp htop
  have p4 : w.cell? ⟨p, 4, none⟩ = some (.bool top.long) := blk_cell b2 4
  have p5 : w.cell? ⟨p, 5, none⟩ = some (.bool top.miser) := blk_cell b2 5
  have p7 : w.cell? ⟨p, 7, none⟩ = some (.int .i64 top.lines) := blk_cell b2 7
  obtain ⟨outv, hlay, _⟩ := h.rep.row
  obtain ⟨_, g1, _, _, _, g5, _⟩ := lay_cell hlay
  have hops := h.ops.below h.rep.below
  have hEw := L.below h.hE h.rep.below
  have hbrk := fun (W1 : World) (hb : Below w.heap.size w W1) => breaks_any L g p (some ad) l cap i W s top x W1 (L.below hEw hb) (hops.below hb) ((hb.cell (p := ⟨_, _, none⟩) (World.block_lt_of_cell? w _ g0)).trans g0) ((hb.cell (p := ⟨_, _, none⟩) (World.block_lt_of_cell? w _ g1)).trans g1) ((hb.cell (p := ⟨_, _, none⟩) (World.block_lt_of_cell? w _ g4)).trans g4) ((hb.cell (p := ⟨_, _, none⟩) (World.block_lt_of_cell? w _ g5)).trans g5)
    ((hb.cell (p := ⟨_, _, none⟩) (World.block_lt_of_cell? w _ p4)).trans p4) ((hb.cell (p := ⟨_, _, none⟩) (World.block_lt_of_cell? w _ p5)).trans p5) ((hb.cell (p := ⟨_, _, none⟩) (World.block_lt_of_cell? w _ p7)).trans p7) h.ok hi h.len h.hcap c0 (by omega)
  have hbro := fun (W1 : World) (hr : Rep w0 g (.slice (some ad) l.length cap) W M bv ps s W1) => broken_over L w0 g p q _ W M bv ps s top W1 hr hg hp htop hs1 (by have := h.few; omega)
  obtain ⟨kd, t, n, m, f⟩ := x
  simp only at *
  have HBRK := Lib.hid hbrk
  have HBRO := Lib.hid hbro
  have HR := Lib.hid h.rep
  have HQ := Lib.hid hq
  have HP := Lib.hid hp
  have HT := Lib.hid htop
  have i0 : (0 : Int) ≤ (i : Int) := Int.natCast_nonneg _
  have i1 : (i : Int) < (l.length : Int) := by omega
  have i2 : (i : Int) ≤ 4000 := by have := h.len; omega
  have q0 : (0 : Int) ≤ (q : Int) := Int.natCast_nonneg _
  have q1 : (q : Int) < (q : Int) + 1 := by omega
  have q2 : (q : Int) ≤ 10000 := by have := h.few; omega
  have z6 : ∀ o, (w.alloc o).cell? ⟨g, 6, none⟩ = some (.slice (some ⟨rb, 0, none⟩) (q + 1) capb) := fun o => (World.cell?_alloc_lt w o _ (World.block_lt_of_cell? w _ g6)).trans g6
  have zr : ∀ o, (w.alloc o).cell? ⟨rb, q, none⟩ = some (.pointer (some ⟨p, 0, none⟩)) := fun o => (World.cell?_alloc_lt w o _ (World.block_lt_of_cell? w _ hrow)).trans hrow
  clear h hg hp htop hbv hq b1 b2 htt hbrk hbro hs1 hlay hops hEw p4 p5 p7 g1 g5 g4
  subst hk
  generalize breaksP W s top ⟨1, t, n, m, f⟩ (l.drop (i + 1)) = B at *
  subst hb
  go_enter Tryd.func32, Tryd.ntmps32
  go_wp2_with fail
  go_quiet (fail)
  go_wp2_with fail
  refine (HBRK.out _ (new1d w _ _)).mono ?_
  rintro e w9 ⟨rfl, hb1⟩
  have HR9 := Lib.hid (Rep.bel HR.out (chain (new1d w _ _) hb1))
  clear hb1 z6 zr a0 a1 a2 a3 a4 g0 g6 hrow
  go_wp2_with fail
  refine (HBRO.out _ HR9.out).mono ?_
  rintro e w1 ⟨rfl, hr1⟩
  exact ⟨rfl, rfl, hr1⟩

theorem over_any {E : World → Prop} (L : LibC E) (w0 : World) (g : Nat) (A : Option Addr) (l : List Op) (cap : Nat) (W M : Int) (bv : Value) (ps : List Nat) (s : St) (i : Nat) (x : Op) (w : World) (h : Given E w0 g A l cap W M bv ps s i x w)
    (hv : Valid x) (hs : stepP W M s x (l.drop (i + 1)) = none) :
    Calls Tryd.prog 32 #[.pointer (some ⟨g, 0, none⟩), .int .i64 i] w (LargeSays w0) := by
  have hts := (h.ok x (List.mem_of_getElem? h.hx)).2
  have hput : ∀ {t : ByteArray}, putP s t = none → 100000 < (putRaw s t).out.length := fun {t} h => by
    rw [putP_if] at h
    split at h
    · cases h
    · omega
  unfold stepP at hs
  rcases kind_cases hv with hk | hk | hk | hk | hk | hk
  · rw [if_pos (.inl hk)] at hs
    exact over_text L w0 g A l cap W M bv ps s i x w h (.inl hk) (hput hs)
  · rw [if_neg (by omega), if_neg (by omega), if_neg (by omega), if_neg (by omega)] at hs
    have h1 := Option.bind_eq_none_iff.1 hs
    by_cases hb : breaksP W s (topOf s) x (l.drop (i + 1)) = true
    · rw [if_pos hb] at h1
      have h2 : brokenP (topOf s) s = none := by
        cases hbr : brokenP (topOf s) s with
        | none => rfl
        | some s1 => exact absurd (h1 s1 hbr) (by simp)
      exact over_newline L w0 g A l cap W M bv ps s i x w h hk hb h2
    · rw [if_neg hb] at h1
      exact absurd (h1 s rfl) (by simp)
  · rw [if_neg (by omega), if_pos hk] at hs
    have h1 : putP s x.text = none := by
      cases hp : putP s x.text with
      | none => rfl
      | some s1 => rw [hp] at hs; cases hs
    exact over_open L w0 g A l cap W M bv ps s i x w h hk (hput h1) hts
  · rw [if_neg (by omega), if_neg (by omega), if_pos hk] at hs
    have h1 : putP s x.text = none := by
      cases hp : putP s x.text with
      | none => rfl
      | some s1 => rw [hp] at hs; cases hs
    exact over_close L w0 g A l cap W M bv ps s i x w h hk (hput h1) hts
  · rw [if_neg (by omega), if_neg (by omega), if_neg (by omega), if_pos hk] at hs
    split at hs <;> cases hs
  · rw [if_pos (.inr hk)] at hs
    exact over_text L w0 g A l cap W M bv ps s i x w h (.inr hk) (hput hs)
end Go.Proofs.YtljgpcaljedhpaaDoor
