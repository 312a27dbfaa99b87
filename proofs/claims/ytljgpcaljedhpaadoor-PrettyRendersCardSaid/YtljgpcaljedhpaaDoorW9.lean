/- step: Indent. -/
import Derived.Test.YtljgpcaljedhpaaDoorW8
namespace Go.Proofs.YtljgpcaljedhpaaDoor
open Go.RowKit

theorem setTop_get (l : List Bk) (b : Bk) (k j : Nat) (hl : l.length = k + 1) : (setTop l b)[j]? = if j = k then some b else l[j]? := by
  have hd : l.dropLast.length = k := by rw [List.length_dropLast, hl]; rfl
  unfold setTop
  by_cases h : j = k
  · subst h
    rw [if_pos rfl, List.getElem?_append_right (by omega), hd, Nat.sub_self]
    rfl
  · rw [if_neg h]
    rcases Nat.lt_or_ge j k with hlt | hge
    · rw [List.getElem?_append_left (by omega), List.dropLast_eq_take, List.getElem?_take, if_pos (by omega)]
    · rw [List.getElem?_eq_none (by simp; omega), List.getElem?_eq_none (by omega)]
theorem setTop_len (l : List Bk) (b : Bk) (k : Nat) (hl : l.length = k + 1) : (setTop l b).length = k + 1 := by
  simp [setTop, hl]

/-- A number of the last block has turned. -/
theorem rep_top {w0 : World} {g : Nat} {ov : Value} {W M : Int} {bv : Value} {ps : List Nat} {s : St} {w : World} {k p i : Nat} {top b' : Bk} {v : Value} (h : Rep w0 g ov W M bv ps s w) (hk : ps.length = k + 1) (hp : ps[k]? = some p) (ht : s.blocks[k]? = some top)
    (hb' : (bkC top).setIfInBounds i v = bkC b') : Rep w0 g ov W M bv ps { s with blocks := setTop s.blocks b' } (w.setCell ⟨p, i, none⟩ v) := by
  obtain ⟨outv, hb, ho⟩ := h.row
  obtain ⟨k1, k2⟩ := h.blks k p top hp ht
  have hgp : g ≠ p := by
    rintro rfl
    rw [hb] at k2
    injection k2 with k2
    injection k2 with _ ht
    exact absurd ht (by decide)
  have hlb : s.blocks.length = k + 1 := by rw [← h.len, hk]
  refine ⟨h.below.setCell k1 _, h.gb, ⟨outv, blk_far hb hgp _, own_set ho (own_ne ho k2 (by decide)) _⟩, own_set h.bl (own_ne h.bl k2 (by decide)) _, fun j pj b hj hbj => ?_, h.nodup, by rw [h.len, hlb]; exact (setTop_len _ _ _ hlb).symm⟩
  rw [setTop_get _ _ k j hlb] at hbj
  by_cases hjk : j = k
  · subst hjk
    rw [if_pos rfl] at hbj
    obtain rfl := Option.some.inj hbj
    rw [hp] at hj
    obtain rfl := Option.some.inj hj
    exact ⟨k1, by rw [blk_set k2 i v, hb']⟩
  · rw [if_neg hjk] at hbj
    obtain ⟨m1, m2⟩ := h.blks j pj b hj hbj
    refine ⟨m1, blk_far m2 ?_ _⟩
    rintro rfl
    exact hjk ((List.getElem?_inj (by have := (List.getElem?_eq_some_iff.1 hj).1; exact this) h.nodup).1 (hj.trans hp.symm))

/-- The indent of the last block has turned. -/
theorem rep_indent {w0 : World} {g : Nat} {ov : Value} {W M : Int} {bv : Value} {ps : List Nat} {s : St} {w : World} {k p : Nat} {top : Bk} (h : Rep w0 g ov W M bv ps { s with blocks := setTop s.blocks top } w) (hk : ps.length = k + 1) (hp : ps[k]? = some p) (hl : s.blocks.length = k + 1) (n : Int) :
    Rep w0 g ov W M bv ps { s with blocks := setTop s.blocks { top with indent := n } } (w.setCell ⟨p, 1, none⟩ (.int .i64 n)) := by
  have := rep_top (top := top) (i := 1) (v := .int .i64 n) (b' := { top with indent := n }) h hk hp (by show (setTop s.blocks top)[k]? = _; rw [setTop_get _ _ k k hl, if_pos rfl]) rfl
  have e : setTop (setTop s.blocks top) { top with indent := n } = setTop s.blocks { top with indent := n } := by simp [setTop]
  simp only [e] at this
  exact this
theorem setTop_self {l : List Bk} {k : Nat} {top : Bk} (hl : l.length = k + 1) (ht : l[k]? = some top) : setTop l top = l := by
  apply List.ext_getElem?
  intro j
  rw [setTop_get _ _ k j hl]
  split
  · rename_i h; rw [h, ht]
  · rfl

theorem setTop_setTop (l : List Bk) (a b : Bk) : setTop (setTop l a) b = setTop l b := by simp [setTop]

set_option maxRecDepth 100000 in
set_option maxHeartbeats 4000000 in
theorem step_indent {E : World → Prop} (w0 : World) (g : Nat) (A : Option Addr) (l : List Op) (cap : Nat) (W M : Int) (bv : Value) (ps : List Nat) (s : St) (i : Nat) (x : Op) (w : World) (h : Given E w0 g A l cap W M bv ps s i x w)
    (hk : x.kind = 4) (hn0 : -100 ≤ x.n) (hn1 : x.n ≤ 100) :
    Calls Tryd.prog 32 #[.pointer (some ⟨g, 0, none⟩), .int .i64 i] w fun e w' => e = .returned (.tuple #[]) ∧
      Rep w0 g (.slice A l.length cap) W M bv ps (if (topOf s).miser = true then s else { s with blocks := setTop s.blocks { topOf s with indent := max (if x.flag = true then s.at_ + x.n else (topOf s).start + x.n) 0 } }) w' := by
  obtain ⟨ad, rb, capb, q, p, top, rfl, hbv, hq, hcb, hp, htop, htt, hi, g0, g4, g6, hrow, a0, a1, a2, a3, a4⟩ := h.reads
  rw [htt]
  have hg := h.good
  have c0 := hg.a0
  have c1 : s.at_ ≤ 100000 := by have := hg.a1; have := hg.len; omega
  obtain ⟨kd, t, n, m, f⟩ := x
  simp only at *
  obtain ⟨b1, b2⟩ := h.rep.blks q p top hp htop
  have hbo := hg.bk top (List.mem_of_getElem? htop)
  have s0 := hbo.s0
  have s1 := hbo.s1
  have p0 : w.cell? ⟨p, 0, none⟩ = some (.int .i64 top.start) := blk_cell b2 0
  have p5 : w.cell? ⟨p, 5, none⟩ = some (.bool top.miser) := blk_cell b2 5
  have HR := Lib.hid h.rep
  have HQ := Lib.hid hq
  have HP := Lib.hid hp
  have HT := Lib.hid htop
  have HB := Lib.hid b2
  have i0 : (0 : Int) ≤ (i : Int) := Int.natCast_nonneg _
  have i1 : (i : Int) < (l.length : Int) := by omega
  have q0 : (0 : Int) ≤ (q : Int) := Int.natCast_nonneg _
  have q1 : (q : Int) < (q : Int) + 1 := by omega
  have q2 : (q : Int) ≤ 10000 := by have := h.few; omega
  have z6 : ∀ o, (w.alloc o).cell? ⟨g, 6, none⟩ = some (.slice (some ⟨rb, 0, none⟩) (q + 1) capb) := fun o => (World.cell?_alloc_lt w o _ (World.block_lt_of_cell? w _ g6)).trans g6
  have zr : ∀ o, (w.alloc o).cell? ⟨rb, q, none⟩ = some (.pointer (some ⟨p, 0, none⟩)) := fun o => (World.cell?_alloc_lt w o _ (World.block_lt_of_cell? w _ hrow)).trans hrow
  have z5 : ∀ o, (w.alloc o).cell? ⟨p, 5, none⟩ = some (.bool top.miser) := fun o => (World.cell?_alloc_lt w o _ (World.block_lt_of_cell? w _ p5)).trans p5
  have hgp : g ≠ p := by
    obtain ⟨_, hb, _⟩ := h.rep.row
    rintro rfl
    rw [hb] at b2
    injection b2 with b2
    injection b2 with _ ht
    exact absurd ht (by decide)
  have HGP := Lib.hid hgp
  have HBL : Hid (s.blocks.length = q + 1) := by rw [← h.rep.len, hq]; rfl
  clear h hg hp htop hbv hq b1 b2 hbo htt hgp
  subst hk
  cases hm : top.miser
  · rw [hm] at z5 p5
    rw [if_neg (by decide)]
    have HM := Lib.hid hm
    clear hm
    go_enter Tryd.func32, Tryd.ntmps32
    go_wp2_with fail
    go_quiet (fail)
    go_wp2_with fail
    obtain ⟨W1, hW1⟩ : ∃ W1, (w.alloc (.cells #[.int .i64 4, .string t, .int .i64 n, .int .i64 m, .bool f] 26)).drewN nq = W1 := ⟨_, rfl⟩
    rw [hW1]
    have hb1 : Below w.heap.size w W1 := by rw [← hW1]; exact new1d _ _ _
    have hloc : W1.heap[w.heap.size]? = some (.cells #[.int .i64 4, .string t, .int .i64 n, .int .i64 m, .bool f] 26 (0, 0)) := by rw [← hW1]; exact heap_alloc_new w _
    have HR1 := Lib.hid (Rep.bel HR.out hb1)
    have HL1 := Lib.hid hloc
    have HB1 := Lib.hid (blk_below HB.out hb1)
    have hpw : p < w.heap.size := blk_lt HB.out
    have k0 := ext_cell (show W1.cell? ⟨p, 0, none⟩ = some (.int .i64 top.start) from blk_cell HB1.out 0)
    have k1 := ext_cell (show W1.cell? ⟨p, 1, none⟩ = some (.int .i64 top.indent) from blk_cell HB1.out 1)
    have x2 := ext_cell (show W1.cell? ⟨w.heap.size, 2, none⟩ = some (.int .i64 n) from blk_cell hloc 2)
    have yf : ∀ x : Ext W1, ∀ i, x.val.frozen? ⟨p, i, none⟩ = false := fun x i => (x.hb.frozen (p := ⟨p, i, none⟩) (blk_lt HB1.out)).trans (blk_frozen HB1.out i)
    have hne := ext_some W1
    have g4x := ext_cell ((hb1.cell (World.block_lt_of_cell? w _ g4)).trans g4)
    clear hW1 hb1 hloc z5 z6 zr a0 a1 a2 a3 a4 g0 g4 g6 hrow p0 p5
    have ew : IntKind.i64.wrap (top.start + n) = top.start + n := IntWalk.i64_in _ (by omega)
    refine wp_region_ext_tail (w0 := W1) 10 (by kernel_rfl) (by kernel_rfl) (Below.refl _ _) ?_
    simp only [List.take_succ_cons, List.take_zero, List.drop_succ_cons, List.drop_zero]
    repeat (go_big_quiet_step (fail))
    refine wpQuiet_nil ?_
    intro x
    have HRx := Lib.hid (rep_indent (top := top) (by rw [setTop_self HBL.out HT.out]; exact Rep.bel HR1.out x.hb) HQ.out HP.out HBL.out (top.start + n))
    have HBx := Lib.hid (blk_below HB1.out x.hb)
    have HLx := Lib.hid (blk_below HL1.out x.hb)
    obtain ⟨X, hX⟩ : ∃ X, x.val = X := ⟨_, rfl⟩
    rw [hX] at HRx HBx HLx ⊢
    have e1 := k1 x
    have ef := yf x
    have eg := g4x x
    rw [hX] at e1 ef eg
    have l2 : X.cell? ⟨w.heap.size, 2, none⟩ = some (.int .i64 n) := blk_cell HLx.out 2
    have l4 : X.cell? ⟨w.heap.size, 4, none⟩ = some (.bool f) := blk_cell HLx.out 4
    have n1 : ¬ w.heap.size = p := by omega
    have n2 : ¬ p = w.heap.size := by omega
    have n3 : ¬ g = p := HGP.out
    have n4 : ¬ p = g := fun e => HGP.out e.symm
    clear ew k0 k1 x2 yf hX hne g4x
    cases f
    · by_cases hneg : 0 ≤ top.start + n
      · have HF := Lib.hid (rep_indent HRx.out HQ.out HP.out HBL.out (top.start + n))
        have em : max (top.start + n) 0 = top.start + n := by omega
        have EM := Lib.hid em
        clear em
        go_wp2_with fail
        go_end0
        exact ⟨rfl, by rw [EM.out]; have := HF.out; have hmm := HM.out; obtain ⟨a, b, c, d, e, f1, g1, h1, k1⟩ := top; simp only at hmm; subst hmm; exact this⟩
      · have HF := Lib.hid (rep_indent HRx.out HQ.out HP.out HBL.out 0)
        have em : max (top.start + n) 0 = 0 := by omega
        have EM := Lib.hid em
        clear em
        go_wp2_with fail
        go_end0
        exact ⟨rfl, by rw [EM.out]; have := HF.out; have hmm := HM.out; obtain ⟨a, b, c, d, e, f1, g1, h1, k1⟩ := top; simp only at hmm; subst hmm; exact this⟩
    · go_wp2_with fail
      obtain ⟨Z, hZ⟩ : ∃ Z, X.setCell ⟨p, 1, none⟩ (.int .i64 (top.start + n)) = Z := ⟨_, rfl⟩
      rw [hZ]
      have hRZ : Rep w0 g (.slice (some ad) l.length cap) W M bv ps { s with blocks := setTop s.blocks { top with indent := top.start + n } } Z := by rw [← hZ]; exact HRx.out
      have hLZ : Z.heap[w.heap.size]? = some (.cells #[.int .i64 4, .string t, .int .i64 n, .int .i64 m, .bool true] 26 (0, 0)) := by rw [← hZ]; exact blk_far HLx.out (p := ⟨p, 1, none⟩) n1 _
      obtain ⟨_, hBZ⟩ := hRZ.blks q p { top with indent := top.start + n } HP.out (by show (setTop s.blocks _)[q]? = _; rw [setTop_get _ _ q q HBL.out, if_pos rfl])
      obtain ⟨_, hgZ, _⟩ := hRZ.row
      obtain ⟨_, _, _, _, v4, _, _⟩ := lay_cell hgZ
      simp only at v4
      have u4 := ext_cell v4
      have u2 := ext_cell (show Z.cell? ⟨w.heap.size, 2, none⟩ = some (.int .i64 n) from blk_cell hLZ 2)
      have u1 := ext_cell (show Z.cell? ⟨p, 1, none⟩ = some (.int .i64 (top.start + n)) from blk_cell hBZ 1)
      have uf : ∀ x : Ext Z, ∀ i, x.val.frozen? ⟨p, i, none⟩ = false := fun x i => (x.hb.frozen (p := ⟨p, i, none⟩) (blk_lt hBZ)).trans (blk_frozen hBZ i)
      have HRZ := Lib.hid hRZ
      have hne := ext_some Z
      have ew : IntKind.i64.wrap (s.at_ + n) = s.at_ + n := IntWalk.i64_in _ (by omega)
      clear hRZ hLZ hBZ hgZ v4 hZ e1 ef eg l2 l4
      refine wp_region_ext_tail (w0 := Z) 10 (by kernel_rfl) (by kernel_rfl) (Below.refl _ _) ?_
      simp only [List.take_succ_cons, List.take_zero, List.drop_succ_cons, List.drop_zero]
      repeat (go_big_quiet_step (fail))
      refine wpQuiet_nil ?_
      intro y
      have HRy := Lib.hid (rep_indent (Rep.bel HRZ.out y.hb) HQ.out HP.out HBL.out (s.at_ + n))
      obtain ⟨Y, hY⟩ : ∃ Y, y.val = Y := ⟨_, rfl⟩
      rw [hY] at HRy ⊢
      have e1 := u1 y
      have ef := uf y
      rw [hY] at e1 ef
      clear ew u1 u2 u4 uf hY hne
      by_cases hneg : 0 ≤ s.at_ + n
      · have HF := Lib.hid (rep_indent HRy.out HQ.out HP.out HBL.out (s.at_ + n))
        have em : max (s.at_ + n) 0 = s.at_ + n := by omega
        have EM := Lib.hid em
        clear em
        go_wp2_with fail
        go_end0
        exact ⟨rfl, by rw [EM.out]; have := HF.out; have hmm := HM.out; obtain ⟨a, b, c, d, e, f1, g1, h1, k1⟩ := top; simp only at hmm; subst hmm; exact this⟩
      · have HF := Lib.hid (rep_indent HRy.out HQ.out HP.out HBL.out 0)
        have em : max (s.at_ + n) 0 = 0 := by omega
        have EM := Lib.hid em
        clear em
        go_wp2_with fail
        go_end0
        exact ⟨rfl, by rw [EM.out]; have := HF.out; have hmm := HM.out; obtain ⟨a, b, c, d, e, f1, g1, h1, k1⟩ := top; simp only at hmm; subst hmm; exact this⟩
  · rw [hm] at z5 p5
    rw [if_pos rfl]
    go_enter Tryd.func32, Tryd.ntmps32
    go_wp2_with fail
    go_quiet (fail)
    go_wp2_with fail
    go_end0
    exact ⟨rfl, (Rep.bel HR.out (new1 w _)).drewN _⟩
end Go.Proofs.YtljgpcaljedhpaaDoor
