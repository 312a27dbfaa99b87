/- step: Close, Indent. -/
import Derived.Test.YtljgpcaljedhpaaDoorW7
namespace Go.Proofs.YtljgpcaljedhpaaDoor
open Go.RowKit

/-- The layout reads as a state. -/
def RepE (w0 : World) (g : Nat) (ov : Value) (W M : Int) (s : St) (w : World) : Prop := ∃ bv ps, Rep w0 g ov W M bv ps s w

theorem rep_pop {w0 : World} {g : Nat} {ov : Value} {W M : Int} {ps : List Nat} {s : St} {w : World} {rb capb q : Nat} (h : Rep w0 g ov W M (.slice (some ⟨rb, 0, none⟩) (q + 1) capb) ps s w) (hq : ps.length = q + 1) :
    Rep w0 g ov W M (.slice (some ⟨rb, 0, none⟩) q capb) ps.dropLast { s with blocks := s.blocks.dropLast } (w.setCell ⟨g, 6, none⟩ (.slice (some ⟨rb, 0, none⟩) q capb)) := by
  obtain ⟨outv, hb, ho⟩ := h.row
  obtain ⟨ps', p, rfl⟩ : ∃ ps' p, ps = ps' ++ [p] := ⟨ps.dropLast, ps.getLast (by rintro rfl; simp at hq), (List.dropLast_concat_getLast _).symm⟩
  have hl : ps'.length = q := by simp at hq; exact hq
  have hn := own_ne h.bl hb (by decide)
  have hbl := h.bl
  rw [hq, List.map_append] at hbl
  have hp := ownsRow_pop (by rw [List.length_map, hl, Nat.mul_one]) hbl
  have hl2 : s.blocks.dropLast.length = q := by rw [List.length_dropLast, ← h.len, hq]; rfl
  rw [List.dropLast_concat]
  refine ⟨(h.below.setCell h.gb _), h.gb, ⟨outv, lay6 hb _, own_set ho (own_ne ho hb (by decide)) _⟩, ?_, fun j pj b hj hbj => ?_, (List.nodup_append.1 h.nodup).1, by rw [hl, hl2]⟩
  · rw [hl]
    exact own_set hp (p := ⟨g, 6, none⟩) hn _
  · have hjl : j < ps'.length := (List.getElem?_eq_some_iff.1 hj).1
    have hj' : (ps' ++ [p])[j]? = some pj := by rw [List.getElem?_append_left hjl]; exact hj
    have hb' : s.blocks[j]? = some b := by
      have hbj' : s.blocks.dropLast[j]? = some b := hbj
      rw [List.dropLast_eq_take, List.getElem?_take] at hbj'
      split at hbj'
      · exact hbj'
      · cases hbj'
    obtain ⟨k1, k2⟩ := h.blks j pj b hj' hb'
    refine ⟨k1, blk_far k2 ?_ _⟩
    rintro rfl
    rw [hb] at k2
    injection k2 with k2
    injection k2 with _ ht
    exact absurd ht (by decide)

set_option maxRecDepth 100000 in
set_option maxHeartbeats 4000000 in
theorem step_close {E : World → Prop} (L : LibC E) (w0 : World) (g : Nat) (A : Option Addr) (l : List Op) (cap : Nat) (W M : Int) (bv : Value) (ps : List Nat) (s : St) (i : Nat) (x : Op) (w : World) (h : Given E w0 g A l cap W M bv ps s i x w)
    (hk : x.kind = 3) (hl : (putRaw s x.text).out.length ≤ 100000) :
    Calls Tryd.prog 32 #[.pointer (some ⟨g, 0, none⟩), .int .i64 i] w fun e w' => e = .returned (.tuple #[]) ∧ RepE w0 g (.slice A l.length cap) W M { putRaw s x.text with blocks := s.blocks.dropLast } w' := by
  obtain ⟨ad, rb, capb, q, p, top, rfl, hbv, hq, hcb, hp, htop, _, hi, g0, g4, g6, hrow, a0, a1, a2, a3, a4⟩ := h.reads
  have hg := h.good
  have c0 := hg.a0
  have c1 : s.at_ ≤ 100000 := by have := hg.a1; have := hg.len; omega
  have n0 : 0 ≤ s.lines := by have := hg.ln; omega
  have n1 : s.lines ≤ 274877906944 := by have := hg.ln; have := hg.len; have := List.count_le_length (a := (10 : UInt8)) (l := s.out); omega
  obtain ⟨kd, t, n, m, f⟩ := x
  simp only at *
  subst hbv
  have hput := fun (W1 : World) (hr : Rep w0 g (.slice (some ad) l.length cap) W M (.slice (some ⟨rb, 0, none⟩) (q + 1) capb) ps s W1) => put_any L w0 g _ W M _ ps s t W1 hr hl c0 (by omega) n0 n1
  have HPUT := Lib.hid hput
  have HR := Lib.hid h.rep
  have HQ := Lib.hid hq
  have i0 : (0 : Int) ≤ (i : Int) := Int.natCast_nonneg _
  have i1 : (i : Int) < (l.length : Int) := by omega
  have q0 : (0 : Int) ≤ (q : Int) := Int.natCast_nonneg _
  have q1 : (q : Int) < (q : Int) + 1 := by omega
  have q2 : (q : Int) ≤ 10000 := by have := h.few; omega
  have q3 : (q : Int) ≤ (capb : Int) := by omega
  have z6 : ∀ o, (w.alloc o).cell? ⟨g, 6, none⟩ = some (.slice (some ⟨rb, 0, none⟩) (q + 1) capb) := fun o => (World.cell?_alloc_lt w o _ (World.block_lt_of_cell? w _ g6)).trans g6
  have zr : ∀ o, (w.alloc o).cell? ⟨rb, q, none⟩ = some (.pointer (some ⟨p, 0, none⟩)) := fun o => (World.cell?_alloc_lt w o _ (World.block_lt_of_cell? w _ hrow)).trans hrow
  clear hput h hg hp htop hq hl
  subst hk
  go_enter Tryd.func32, Tryd.ntmps32
  go_wp2_with fail
  go_quiet (fail)
  go_wp2_with fail
  refine (HPUT.out _ ((Rep.bel HR.out (new1 w _)).drewN nq)).mono ?_
  rintro e w2 ⟨rfl, hR2⟩
  have HR2 := Lib.hid hR2
  obtain ⟨outv2, hb2, _⟩ := hR2.row
  obtain ⟨f0, f1, f2, f3, f4, f5, f6⟩ := lay_cell hb2
  have ff := blk_frozen hb2
  have y6 := ext_cell f6
  have yf : ∀ x : Ext w2, ∀ i, x.val.frozen? ⟨g, i, none⟩ = false := fun x i => (x.hb.frozen (p := ⟨g, i, none⟩) (blk_lt hb2)).trans (ff i)
  have hne := ext_some w2
  have HRx := Lib.hid (fun x : Ext w2 => rep_pop (Rep.bel hR2 x.hb) HQ.out)
  clear f0 f1 f2 f3 f4 f5 f6 ff hb2 hR2 z6 zr a0 a1 a2 a3 a4 g0 g4 g6 hrow
  go_wp2_with fail
  have ew : IntKind.i64.wrap (q : Int) = (q : Int) := IntWalk.i64_in _ (by omega)
  refine wp_region_ext_tail (w0 := w2) 14 (by kernel_rfl) (by kernel_rfl) (Below.refl _ _) ?_
  simp only [List.take_succ_cons, List.take_zero, List.drop_succ_cons, List.drop_zero]
  repeat (go_big_quiet_step (fail))
  refine wpQuiet_nil ?_
  intro x
  have e6 := y6 x
  have ef := yf x
  clear ew y6 yf
  go_wp2_with fail
  go_end0
  exact ⟨rfl, _, _, HRx.out x⟩
end Go.Proofs.YtljgpcaljedhpaaDoor
