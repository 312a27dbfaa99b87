/- step: Newline. -/
import Derived.Test.YtljgpcaljedhpaaDoorW9
namespace Go.Proofs.YtljgpcaljedhpaaDoor
open Go.RowKit

theorem prefixes_spec (l : List Bk) : ∀ s s', prefixesP l s = some s' → s'.blocks = s.blocks ∧ (Good s → Good s') := by
  induction l with
  | nil => intro s s' h; obtain rfl := Option.some.inj h; exact ⟨rfl, id⟩
  | cons b r ih =>
    intro s s' h
    unfold prefixesP at h
    split at h
    · obtain ⟨s1, h1, h2⟩ := Option.bind_eq_some_iff.1 h
      obtain ⟨e1, hl⟩ := put_some h1
      obtain ⟨k1, k2⟩ := ih _ _ h2
      subst e1
      exact ⟨k1, fun g => k2 (put_good g hl)⟩
    · exact ih _ _ h
theorem broken_spec {top : Bk} {s s' : St} (h : brokenP top s = some s') : s'.blocks = s.blocks ∧ (Good s → Good s') := by
  unfold brokenP at h
  obtain ⟨s1, h1, h⟩ := Option.bind_eq_some_iff.1 h
  obtain ⟨s2, h2, h3⟩ := Option.bind_eq_some_iff.1 h
  obtain ⟨e1, l1⟩ := put_some h1
  obtain ⟨k1, k2⟩ := prefixes_spec _ _ _ h2
  obtain ⟨e3, l3⟩ := put_some h3
  subst e3 e1
  exact ⟨k1, fun g => put_good (k2 (nl_good g l1)) l3⟩

theorem setTop_2 (l : List Bk) (a b : Bk) : setTop (setTop l a) b = setTop l b := by simp [setTop]

set_option maxRecDepth 100000 in
set_option maxHeartbeats 4000000 in
theorem step_newline {E : World → Prop} (L : LibC E) (w0 : World) (g : Nat) (A : Option Addr) (l : List Op) (cap : Nat) (W M : Int) (bv : Value) (ps : List Nat) (s s1 : St) (i : Nat) (x : Op) (w : World) (h : Given E w0 g A l cap W M bv ps s i x w)
    (hk : x.kind = 1) (hs1 : (if breaksP W s (topOf s) x (l.drop (i + 1)) = true then brokenP (topOf s) s else some s) = some s1) :
    Calls Tryd.prog 32 #[.pointer (some ⟨g, 0, none⟩), .int .i64 i] w fun e w' => e = .returned (.tuple #[]) ∧
      Rep w0 g (.slice A l.length cap) W M bv ps { s1 with blocks := setTop s1.blocks { topOf s with lines := s1.lines, slong := !fitsP W (l.drop (i + 1)) 0 s1.at_ } } w' := by
  obtain ⟨ad, rb, capb, q, p, top, rfl, hbv, hq, hcb, hp, htop, htt, hi, g0, g4, g6, hrow, a0, a1, a2, a3, a4⟩ := h.reads
  rw [htt] at hs1 ⊢
  have hg := h.good
  have c0 := hg.a0
  have c1 : s.at_ ≤ 100000 := by have := hg.a1; have := hg.len; omega
  obtain ⟨b1, b2⟩ := h.rep.blks q p top hp htop
  have p4 : w.cell? ⟨p, 4, none⟩ = some (.bool top.long) := blk_cell b2 4
  have p5 : w.cell? ⟨p, 5, none⟩ = some (.bool top.miser) := blk_cell b2 5
  have p7 : w.cell? ⟨p, 7, none⟩ = some (.int .i64 top.lines) := blk_cell b2 7
  obtain ⟨outv, hlay, _⟩ := h.rep.row
  obtain ⟨_, g1, _, _, _, g5, _⟩ := lay_cell hlay
  have hops := h.ops.below h.rep.below
  have hEw := L.below h.hE h.rep.below
  have hs1' : s1.blocks = s.blocks ∧ Good s1 := by
    split at hs1
    · obtain ⟨k1, k2⟩ := broken_spec hs1; exact ⟨k1, k2 hg⟩
    · obtain rfl := Option.some.inj hs1; exact ⟨rfl, hg⟩
  have d0 := hs1'.2.a0
  have d1 : s1.at_ ≤ 100000 := by have := hs1'.2.a1; have := hs1'.2.len; omega
  have hbrk := fun (W1 : World) (hb : Below w.heap.size w W1) => breaks_any L g p (some ad) l cap i W s top x W1 (L.below hEw hb) (hops.below hb) ((hb.cell (p := ⟨_, _, none⟩) (World.block_lt_of_cell? w _ g0)).trans g0) ((hb.cell (p := ⟨_, _, none⟩) (World.block_lt_of_cell? w _ g1)).trans g1) ((hb.cell (p := ⟨_, _, none⟩) (World.block_lt_of_cell? w _ g4)).trans g4) ((hb.cell (p := ⟨_, _, none⟩) (World.block_lt_of_cell? w _ g5)).trans g5)
    ((hb.cell (p := ⟨_, _, none⟩) (World.block_lt_of_cell? w _ p4)).trans p4) ((hb.cell (p := ⟨_, _, none⟩) (World.block_lt_of_cell? w _ p5)).trans p5) ((hb.cell (p := ⟨_, _, none⟩) (World.block_lt_of_cell? w _ p7)).trans p7) h.ok hi h.len h.hcap c0 (by omega)
  have hbro := fun (W1 : World) (hr : Rep w0 g (.slice (some ad) l.length cap) W M bv ps s W1) (hb : brokenP top s = some s1) => broken_any L w0 g p q _ W M bv ps s s1 top W1 hr hg hp htop hb (by have := h.few; omega)
  have hfit := fun (W1 : World) (hr : Below w0.heap.size w0 W1) (k0 : W1.cell? ⟨g, 0, none⟩ = some (.slice (some ad) l.length cap)) (k1 : W1.cell? ⟨g, 1, none⟩ = some (.int .i64 W)) =>
    fits_rep L g (some ad) l cap (i + 1) W s1.at_ W1 (L.below h.hE hr) (h.ops.below hr) k0 k1 h.ok (by omega) h.len h.hcap d0 (by omega) ((i : Int) + 1) (by omega) W1 (Below.refl _ _)
  obtain ⟨kd, t, n, m, f⟩ := x
  simp only at *
  generalize fitsP W (l.drop (i + 1)) 0 s1.at_ = R at *
  have HBRK := Lib.hid hbrk
  have HBRO := Lib.hid hbro
  have HFIT := Lib.hid hfit
  have HR := Lib.hid h.rep
  have HQ := Lib.hid hq
  have HP := Lib.hid hp
  have HT := Lib.hid htop
  have HS1 := Lib.hid hs1
  have HS2 := Lib.hid hs1'
  have HTB : Hid (s1.blocks[q]? = some top) := by rw [hs1'.1]; exact htop
  have HLB : Hid (s1.blocks.length = q + 1) := by rw [hs1'.1, ← h.rep.len, hq]; rfl
  have i0 : (0 : Int) ≤ (i : Int) := Int.natCast_nonneg _
  have i1 : (i : Int) < (l.length : Int) := by omega
  have i2 : (i : Int) ≤ 4000 := by have := h.len; omega
  have q0 : (0 : Int) ≤ (q : Int) := Int.natCast_nonneg _
  have q1 : (q : Int) < (q : Int) + 1 := by omega
  have q2 : (q : Int) ≤ 10000 := by have := h.few; omega
  have z6 : ∀ o, (w.alloc o).cell? ⟨g, 6, none⟩ = some (.slice (some ⟨rb, 0, none⟩) (q + 1) capb) := fun o => (World.cell?_alloc_lt w o _ (World.block_lt_of_cell? w _ g6)).trans g6
  have zr : ∀ o, (w.alloc o).cell? ⟨rb, q, none⟩ = some (.pointer (some ⟨p, 0, none⟩)) := fun o => (World.cell?_alloc_lt w o _ (World.block_lt_of_cell? w _ hrow)).trans hrow
  clear h hg hp htop hbv hq b1 b2 htt hbrk hbro hfit hs1 hs1' hlay hops hEw p4 p5 p7 g1 g5 g4
  subst hk
  generalize breaksP W s top ⟨1, t, n, m, f⟩ (l.drop (i + 1)) = B at *
  cases B
  · have es : s = s1 := by have := HS1.out; rw [if_neg (by decide)] at this; exact Option.some.inj this
    subst es
    go_enter Tryd.func32, Tryd.ntmps32
    go_wp2_with fail
    go_quiet (fail)
    go_wp2_with fail
    refine (HBRK.out _ (new1d w _ _)).mono ?_
    rintro e w1 ⟨rfl, hb1⟩
    have HR1 := Lib.hid (Rep.bel HR.out (chain (new1d w _ _) hb1))
    clear hb1 z6 zr a0 a1 a2 a3 a4 g0 g6 hrow
    obtain ⟨outv1, hlay1, _⟩ := HR1.out.row
    obtain ⟨y0, y1, _, _, y4, y5, _⟩ := lay_cell hlay1
    obtain ⟨kp1, hblk1⟩ := HR1.out.blks q p top HP.out HTB.out
    have yf := blk_frozen hblk1
    have v7 : w1.cell? ⟨p, 7, none⟩ = some (.int .i64 top.lines) := blk_cell hblk1 7
    have hgp : g ≠ p := by
      rintro rfl
      rw [hlay1] at hblk1
      injection hblk1 with hblk1
      injection hblk1 with _ ht
      exact absurd ht (by decide)
    have HRA := Lib.hid (rep_top (top := top) (i := 7) (v := .int .i64 s.lines) (b' := { top with lines := s.lines }) HR1.out HQ.out HP.out HTB.out rfl)
    have m0 : ¬ g = p := hgp
    have m1 : ¬ p = g := fun e => hgp e.symm
    have HF2 := Lib.hid (HFIT.out (w1.setCell ⟨p, 7, none⟩ (.int .i64 s.lines)) HRA.out.below ((World.cell?_of_block (Below.heap_setCell w1 ⟨p, 7, none⟩ (.int .i64 s.lines) g hgp)).trans y0) ((World.cell?_of_block (Below.heap_setCell w1 ⟨p, 7, none⟩ (.int .i64 s.lines) g hgp)).trans y1))
    clear hlay1 hblk1 hgp y0 y1 HFIT HBRK HBRO
    go_wp2_with (go_at_call 31; (with_reducible refine HF2.out.mono ?_); rintro e w3 ⟨rfl, hb3⟩; have HR3 := Lib.hid (Rep.bel HRA.out hb3); obtain ⟨kp3, hblk3⟩ := HR3.out.blks q p { top with lines := s.lines } HP.out (by show (setTop s.blocks _)[q]? = _; rw [setTop_get _ _ q q HLB.out, if_pos rfl]); have v8 : w3.cell? ⟨p, 8, none⟩ = some (.bool top.slong) := blk_cell hblk3 8; have yf3 := blk_frozen hblk3; have HRB := Lib.hid (rep_top (top := { top with lines := s.lines }) (i := 8) (v := .bool (!R)) (b' := { top with lines := s.lines, slong := !R }) HR3.out HQ.out HP.out (by show (setTop s.blocks _)[q]? = _; rw [setTop_get _ _ q q HLB.out, if_pos rfl]) rfl); clear hblk3 hb3)
    go_end0
    refine ⟨rfl, ?_⟩
    have := HRB.out
    simp only [setTop_2] at this
    exact this
  · have es : brokenP top s = some s1 := by have := HS1.out; rw [if_pos rfl] at this; exact this
    have HES := Lib.hid es
    clear es
    go_enter Tryd.func32, Tryd.ntmps32
    go_wp2_with fail
    go_quiet (fail)
    go_wp2_with fail
    refine (HBRK.out _ (new1d w _ _)).mono ?_
    rintro e w9 ⟨rfl, hb1⟩
    have HR9 := Lib.hid (Rep.bel HR.out (chain (new1d w _ _) hb1))
    clear hb1 z6 zr a0 a1 a2 a3 a4 g0 g6 hrow
    go_wp2_with fail
    refine (HBRO.out _ HR9.out HES.out).mono ?_
    rintro e w1 ⟨rfl, hr1⟩
    have HR1 := Lib.hid hr1
    clear hr1
    obtain ⟨outv1, hlay1, _⟩ := HR1.out.row
    obtain ⟨y0, y1, _, _, y4, y5, _⟩ := lay_cell hlay1
    obtain ⟨kp1, hblk1⟩ := HR1.out.blks q p top HP.out HTB.out
    have yf := blk_frozen hblk1
    have v7 : w1.cell? ⟨p, 7, none⟩ = some (.int .i64 top.lines) := blk_cell hblk1 7
    have hgp : g ≠ p := by
      rintro rfl
      rw [hlay1] at hblk1
      injection hblk1 with hblk1
      injection hblk1 with _ ht
      exact absurd ht (by decide)
    have HRA := Lib.hid (rep_top (top := top) (i := 7) (v := .int .i64 s1.lines) (b' := { top with lines := s1.lines }) HR1.out HQ.out HP.out HTB.out rfl)
    have m0 : ¬ g = p := hgp
    have m1 : ¬ p = g := fun e => hgp e.symm
    have HF2 := Lib.hid (HFIT.out (w1.setCell ⟨p, 7, none⟩ (.int .i64 s1.lines)) HRA.out.below ((World.cell?_of_block (Below.heap_setCell w1 ⟨p, 7, none⟩ (.int .i64 s1.lines) g hgp)).trans y0) ((World.cell?_of_block (Below.heap_setCell w1 ⟨p, 7, none⟩ (.int .i64 s1.lines) g hgp)).trans y1))
    clear hlay1 hblk1 hgp y0 y1 HFIT HBRK HBRO
    go_wp2_with (go_at_call 31; (with_reducible refine HF2.out.mono ?_); rintro e w3 ⟨rfl, hb3⟩; have HR3 := Lib.hid (Rep.bel HRA.out hb3); obtain ⟨kp3, hblk3⟩ := HR3.out.blks q p { top with lines := s1.lines } HP.out (by show (setTop s1.blocks _)[q]? = _; rw [setTop_get _ _ q q HLB.out, if_pos rfl]); have v8 : w3.cell? ⟨p, 8, none⟩ = some (.bool top.slong) := blk_cell hblk3 8; have yf3 := blk_frozen hblk3; have HRB := Lib.hid (rep_top (top := { top with lines := s1.lines }) (i := 8) (v := .bool (!R)) (b' := { top with lines := s1.lines, slong := !R }) HR3.out HQ.out HP.out (by show (setTop s1.blocks _)[q]? = _; rw [setTop_get _ _ q q HLB.out, if_pos rfl]) rfl); clear hblk3 hb3)
    go_end0
    refine ⟨rfl, ?_⟩
    have := HRB.out
    simp only [setTop_2] at this
    exact this
end Go.Proofs.YtljgpcaljedhpaaDoor
