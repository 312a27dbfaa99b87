/- step: Open. -/
import Derived.Test.YtljgpcaljedhpaaDoorX1
namespace Go.Proofs.YtljgpcaljedhpaaDoor
open Go.RowKit

theorem info67 : (Tryd.prog.info? 67).map (fun i => (i.zero, i.size, i.bytes)) = some (some (.pointer none), 1, 8) := by kernel_rfl

/-- A store into a block of its own. -/
theorem Rep.far {w0 : World} {g : Nat} {ov : Value} {W M : Int} {bv : Value} {ps : List Nat} {s : St} {w : World} {b : Nat} {cs : Array Value} (h : Rep w0 g ov W M bv ps s w) (hb : w.heap[b]? = some (.cells cs 69 (0, 0))) (hn : b ∉ ps) (h0 : w0.heap.size ≤ b) (i : Nat) (v : Value) :
    Rep w0 g ov W M bv ps s (w.setCell ⟨b, i, none⟩ v) := by
  obtain ⟨outv, hg, ho⟩ := h.row
  have hgb : g ≠ b := by
    rintro rfl
    rw [hg] at hb
    injection hb with hb
    injection hb with _ ht
    exact absurd ht (by decide)
  exact ⟨h.below.setCell h0 _, h.gb, ⟨outv, blk_far hg hgb _, own_set ho (own_ne ho hb (by decide)) _⟩, own_set h.bl (own_ne h.bl hb (by decide)) _,
    fun j p k hj hk => ⟨(h.blks j p k hj hk).1, blk_far (h.blks j p k hj hk).2 (by rintro rfl; exact hn (List.mem_of_getElem? hj)) _⟩, h.nodup, h.len⟩

theorem Rep.lt {w0 : World} {g : Nat} {ov : Value} {W M : Int} {bv : Value} {ps : List Nat} {s : St} {w : World} (h : Rep w0 g ov W M bv ps s w) : ∀ p ∈ ps, p < w.heap.size := fun p hp => by
  obtain ⟨j, hj⟩ := List.getElem?_of_mem hp
  have hjl := (List.getElem?_eq_some_iff.1 hj).1
  obtain ⟨b, hb⟩ : ∃ b, s.blocks[j]? = some b := ⟨_, List.getElem?_eq_getElem (by rw [← h.len]; exact hjl)⟩
  exact blk_lt (h.blks j p b hj hb).2

theorem rep_push {w0 : World} {g : Nat} {ov : Value} {W M : Int} {bv bv' : Value} {ps : List Nat} {s : St} {w w1 : World} {b : Nat} {bk : Bk} (h : Rep w0 g ov W M bv ps s w) (hb : w.heap[b]? = some (.cells (bkC bk) 69 (0, 0))) (hn : b ∉ ps) (h0 : w0.heap.size ≤ b)
    (hg : w.grownBy w1 bv.ownBlock) (ho : w1.ownsRow w0.heap.size 67 1 bv' (ps.length + 1) ((ps.map fun p => .pointer (some ⟨p, 0, none⟩)) ++ [.pointer (some ⟨b, 0, none⟩)])) :
    Rep w0 g ov W M bv' (ps ++ [b]) { s with blocks := s.blocks ++ [bk] } (w1.setCell ⟨g, 6, none⟩ bv') := by
  obtain ⟨outv, hgb, hown⟩ := h.row
  have hg1 := blk_grown hgb hg (own_ne h.bl hgb (by decide))
  have ho1 := hown.kept hg (own_own_ne hown h.bl (by decide))
  refine ⟨(h.below.grown hg h.below.size fun k hk => (h.bl.lt k hk).1).setCell h.gb _, h.gb, ⟨outv, lay6 hg1 _, own_set ho1 (own_ne ho1 hg1 (by decide)) _⟩, ?_, fun j p k hj hk => ?_, ?_, by simp [h.len]⟩
  · rw [List.length_append, List.map_append]
    exact own_set ho (p := ⟨g, 6, none⟩) (own_ne ho hg1 (by decide)) _
  · have key : w0.heap.size ≤ p ∧ w.heap[p]? = some (.cells (bkC k) 69 (0, 0)) := by
      rcases Nat.lt_or_ge j ps.length with hlt | hge
      · rw [List.getElem?_append_left hlt] at hj
        have hk' : s.blocks[j]? = some k := by
          have : (s.blocks ++ [bk])[j]? = some k := hk
          rwa [List.getElem?_append_left (by rw [← h.len]; exact hlt)] at this
        exact h.blks j p k hj hk'
      · rw [List.getElem?_append_right hge] at hj
        have hk' : (s.blocks ++ [bk])[j]? = some k := hk
        rw [List.getElem?_append_right (by rw [← h.len]; exact hge), ← h.len] at hk'
        have hj0 : j - ps.length = 0 := by
          have := (List.getElem?_eq_some_iff.1 hj).1
          simp at this
          omega
        rw [hj0] at hj hk'
        obtain rfl : b = p := by simpa using hj
        obtain rfl : bk = k := by simpa using hk'
        exact ⟨h0, hb⟩
    refine ⟨key.1, blk_far (blk_grown key.2 hg (own_ne h.bl key.2 (by decide))) ?_ _⟩
    rintro rfl
    have := key.2
    rw [hgb] at this
    injection this with this
    injection this with _ ht
    exact absurd ht (by decide)
  · exact List.nodup_append.2 ⟨h.nodup, by simp, fun a ha c hc => by
      obtain rfl : c = b := by simpa using hc
      rintro rfl
      exact hn ha⟩

set_option maxRecDepth 100000 in
set_option maxHeartbeats 8000000 in
theorem step_open {E : World → Prop} (L : LibC E) (w0 : World) (g : Nat) (A : Option Addr) (l : List Op) (cap : Nat) (W M : Int) (bv : Value) (ps : List Nat) (s : St) (i : Nat) (x : Op) (w : World) (h : Given E w0 g A l cap W M bv ps s i x w)
    (hk : x.kind = 2) (hl : (putRaw s x.text).out.length ≤ 100000) (hW0 : 0 ≤ W) (hW : W ≤ 1000000) :
    Calls Tryd.prog 32 #[.pointer (some ⟨g, 0, none⟩), .int .i64 i] w fun e w' => e = .returned (.tuple #[]) ∧ RepE w0 g (.slice A l.length cap) W M
      { putRaw s x.text with blocks := s.blocks ++ [{ start := (putRaw s x.text).at_, indent := (putRaw s x.text).at_, front := s.at_, pre := if x.flag = true then x.text else ⟨#[]⟩, long := (topOf s).slong, miser := decide (W - (putRaw s x.text).at_ ≤ M), each := x.flag, lines := (putRaw s x.text).lines, slong := !fitsP W (l.drop (i + 1)) 0 (putRaw s x.text).at_ }] } w' := by
  obtain ⟨ad, rb, capb, q, p, top, rfl, hbv, hq, hcb, hp, htop, htt, hi, g0, g4, g6, hrow, a0, a1, a2, a3, a4⟩ := h.reads
  rw [htt]
  have hg := h.good
  have c0 := hg.a0
  have c1 : s.at_ ≤ 100000 := by have := hg.a1; have := hg.len; omega
  have n0 : 0 ≤ s.lines := by have := hg.ln; omega
  have n1 : s.lines ≤ 274877906944 := by have := hg.ln; have := hg.len; have := List.count_le_length (a := (10 : UInt8)) (l := s.out); omega
  have hg1 := put_good hg hl
  obtain ⟨kd, t, n, m, f⟩ := x
  simp only at *
  have d0 := hg1.a0
  have d1 : (putRaw s t).at_ ≤ 100000 := by have := hg1.a1; omega
  have hput := fun (W1 : World) (hr : Rep w0 g (.slice (some ad) l.length cap) W M bv ps s W1) => put_full L w0 g _ W M _ ps s t W1 hr hl c0 (by omega) n0 n1
  have hfit := fun (W1 : World) (hr : Below w0.heap.size w0 W1) (k0 : W1.cell? ⟨g, 0, none⟩ = some (.slice (some ad) l.length cap)) (k1 : W1.cell? ⟨g, 1, none⟩ = some (.int .i64 W)) =>
    fits_rep L g (some ad) l cap (i + 1) W (putRaw s t).at_ W1 (L.below h.hE hr) (h.ops.below hr) k0 k1 h.ok (by omega) h.len h.hcap d0 (by omega) ((i : Int) + 1) (by omega) W1 (Below.refl _ _)
  have hsb : (putRaw s t).blocks = s.blocks := rfl
  generalize fitsP W (l.drop (i + 1)) 0 (putRaw s t).at_ = R at *
  generalize putRaw s t = s1 at *
  have HPL := Lib.hid h.few
  obtain ⟨t67, ti0, ti1, ti2, ti3⟩ := info_parts info67
  have T0 := Lib.hid ti0
  have T1 := Lib.hid ti1
  have T2 := Lib.hid ti2
  have T3 := Lib.hid ti3
  have HPUT := Lib.hid hput
  have HFIT := Lib.hid hfit
  have HR := Lib.hid h.rep
  have HQ := Lib.hid hq
  have HP := Lib.hid hp
  have HT := Lib.hid htop
  have HSB := Lib.hid hsb
  have HBV := Lib.hid hbv
  have i0 : (0 : Int) ≤ (i : Int) := Int.natCast_nonneg _
  have i1 : (i : Int) < (l.length : Int) := by omega
  have i2 : (i : Int) ≤ 4000 := by have := h.len; omega
  have q0 : (0 : Int) ≤ (q : Int) := Int.natCast_nonneg _
  have q1 : (q : Int) < (q : Int) + 1 := by omega
  have q2 : (q : Int) ≤ 10000 := by have := h.few; omega
  have z6 : ∀ o, (w.alloc o).cell? ⟨g, 6, none⟩ = some (.slice (some ⟨rb, 0, none⟩) (q + 1) capb) := fun o => (World.cell?_alloc_lt w o _ (World.block_lt_of_cell? w _ g6)).trans g6
  have zr : ∀ o, (w.alloc o).cell? ⟨rb, q, none⟩ = some (.pointer (some ⟨p, 0, none⟩)) := fun o => (World.cell?_alloc_lt w o _ (World.block_lt_of_cell? w _ hrow)).trans hrow
  have zg : ∀ o, (w.alloc o).cell? ⟨g, 4, none⟩ = some (.int .i64 s.at_) := fun o => (World.cell?_alloc_lt w o _ (World.block_lt_of_cell? w _ g4)).trans g4
  clear h hg hp htop hbv hq htt hput hfit hl hg1 hsb ti0 ti1 ti2 ti3
  subst hk
  go_enter Tryd.func32, Tryd.ntmps32
  go_wp2_with fail
  go_quiet (fail)
  go_wp2_with fail
  obtain ⟨W1, hW1⟩ : ∃ W1, (w.alloc (.cells #[.int .i64 2, .string t, .int .i64 n, .int .i64 m, .bool f] 26)).drewN nq = W1 := ⟨_, rfl⟩
  rw [hW1]
  have hb1 : Below w.heap.size w W1 := by rw [← hW1]; exact new1d _ _ _
  have hloc : W1.heap[w.heap.size]? = some (.cells #[.int .i64 2, .string t, .int .i64 n, .int .i64 m, .bool f] 26 (0, 0)) := by rw [← hW1]; exact heap_alloc_new w _
  have HR1 := Lib.hid (Rep.bel HR.out hb1)
  obtain ⟨_, hg1, _⟩ := HR1.out.row
  have hlg : w.heap.size ≠ g := by
    rintro rfl
    rw [hloc] at hg1
    injection hg1 with hg1
    injection hg1 with _ ht
    exact absurd ht (by decide)
  have HLOC := Lib.hid hloc
  have HLG := Lib.hid hlg
  clear hW1 hb1 hg1 hlg hloc z6 zr zg a0 a1 a2 a3 a4 g0 g4 g6 hrow
  refine (HPUT.out W1 HR1.out).mono ?_
  rintro e w2 ⟨rfl, hR2, hK2⟩
  have HR2 := Lib.hid hR2
  have HLOC2 := Lib.hid (hK2 _ _ _ HLOC.out HLG.out (by decide))
  obtain ⟨outv2, hg2, _⟩ := hR2.row
  obtain ⟨_, _, _, _, y4, y5, _⟩ := lay_cell hg2
  obtain ⟨kp2, hb2⟩ := hR2.blks q p top HP.out (by rw [HSB.out]; exact HT.out)
  have x4 := ext_cell y4
  have x5 := ext_cell y5
  have x8 := ext_cell (show w2.cell? ⟨p, 8, none⟩ = some (.bool top.slong) from blk_cell hb2 8)
  have hne := ext_some w2
  clear hR2 hK2 hg2 hb2 y4 y5 HPUT
  go_wp2_with fail
  refine wp_region_ext_tail (w0 := w2) 18 (by kernel_rfl) (by kernel_rfl) (Below.refl _ _) ?_
  simp only [List.take_succ_cons, List.take_zero, List.drop_succ_cons, List.drop_zero]
  repeat (go_big_quiet_step (fail))
  refine wpQuiet_nil ?_
  intro y
  have HR3 := Lib.hid (Rep.bel HR2.out y.hb)
  have HL3 := Lib.hid (blk_below HLOC2.out y.hb)
  obtain ⟨Y, hY⟩ : ∃ Y, y.val = Y := ⟨_, rfl⟩
  rw [hY] at HR3 HL3 ⊢
  clear x4 x5 x8 hY hne
  have u4 : ∀ o, (Y.alloc o).cell? ⟨w.heap.size, 4, none⟩ = some (.bool f) := fun o => (World.cell?_alloc_lt Y o _ (blk_lt HL3.out)).trans (blk_cell HL3.out 4)
  have HNI : Hid (Y.heap.size ∉ ps) := fun hin => absurd (HR3.out.lt _ hin) (Nat.lt_irrefl _)
  have HBN : Hid (w0.heap.size ≤ Y.heap.size) := HR3.out.below.size
  cases f
  · go_wp2_with fail
    obtain ⟨Z, hZ⟩ : ∃ Z, Y.alloc (.cells #[.int .i64 s1.at_, .int .i64 s1.at_, .int .i64 s.at_, .string ⟨#[]⟩, .bool top.slong, .bool false, .bool false, .int .i64 s1.lines, .bool false] 69) = Z := ⟨_, rfl⟩
    rw [hZ]
    have hrz : Rep w0 g (.slice (some ad) l.length cap) W M bv ps s1 Z := by rw [← hZ]; exact Rep.bel HR3.out (new1 Y _)
    have hnz : Z.heap[Y.heap.size]? = some (.cells (bkC { start := s1.at_, indent := s1.at_, front := s.at_, pre := ⟨#[]⟩, long := top.slong, miser := false, each := false, lines := s1.lines, slong := false }) 69 (0, 0)) := by rw [← hZ]; exact heap_alloc_new Y _
    clear hZ u4
    have HRZ : Hid (Rep w0 g (.slice (some ad) l.length cap) W M bv ps s1 Z) := hrz
    have HNZ : Hid (Z.heap[Y.heap.size]? = some (.cells (bkC ({ start := s1.at_, indent := s1.at_, front := s.at_, pre := ⟨#[]⟩, long := top.slong, miser := false, each := false, lines := s1.lines, slong := false } : Bk)) 69 (0, 0))) := hnz
    clear hrz hnz
    obtain ⟨_, hgz, _⟩ := HRZ.out.row
    obtain ⟨_, z1, z2, _, _, _, _⟩ := lay_cell hgz
    have hgn : g ≠ Y.heap.size := by
      intro e
      have h1 := HNZ.out
      rw [← e, hgz] at h1
      injection h1 with h1
      injection h1 with _ ht
      exact absurd ht (by decide)
    have x1 := ext_cell z1
    have x2 := ext_cell z2
    have x0 := ext_cell (show Z.cell? ⟨Y.heap.size, 0, none⟩ = some (.int .i64 s1.at_) from blk_cell HNZ.out 0)
    have x5 := ext_cell (show Z.cell? ⟨Y.heap.size, 5, none⟩ = some (.bool false) from blk_cell HNZ.out 5)
    have xf : ∀ x : Ext Z, ∀ i, x.val.frozen? ⟨Y.heap.size, i, none⟩ = false := fun x i => (x.hb.frozen (p := ⟨_, i, none⟩) (blk_lt HNZ.out)).trans (blk_frozen HNZ.out i)
    have ew : IntKind.i64.wrap (W - s1.at_) = W - s1.at_ := IntWalk.i64_in _ (by omega)
    have hne := ext_some Z
    clear hgz z1 z2
    refine wp_region_ext_tail (w0 := Z) 17 (by kernel_rfl) (by kernel_rfl) (Below.refl _ _) ?_
    simp only [List.take_succ_cons, List.take_zero, List.drop_succ_cons, List.drop_zero]
    repeat (go_big_quiet_step (fail))
    refine wpQuiet_nil ?_
    intro x
    obtain ⟨X, hX⟩ : ∃ X, x.val = X := ⟨_, rfl⟩
    have hrx : Rep w0 g (.slice (some ad) l.length cap) W M bv ps s1 X := by rw [← hX]; exact Rep.bel HRZ.out x.hb
    have hnx : X.heap[Y.heap.size]? = some (.cells (bkC ({ start := s1.at_, indent := s1.at_, front := s.at_, pre := ⟨#[]⟩, long := top.slong, miser := false, each := false, lines := s1.lines, slong := false } : Bk)) 69 (0, 0)) := by rw [← hX]; exact blk_below HNZ.out x.hb
    have e5 := x5 x
    have ef := xf x
    rw [hX] at e5 ef ⊢
    have HRA := Lib.hid (hrx.far hnx HNI.out HBN.out 5 (.bool (decide (W - s1.at_ ≤ M))))
    have HNA : Hid ((X.setCell ⟨Y.heap.size, 5, none⟩ (.bool (decide (W - s1.at_ ≤ M)))).heap[Y.heap.size]? = some (.cells (bkC { ({ start := s1.at_, indent := s1.at_, front := s.at_, pre := ⟨#[]⟩, long := top.slong, miser := false, each := false, lines := s1.lines, slong := false } : Bk) with miser := decide (W - s1.at_ ≤ M) }) 69 (0, 0))) := blk_set hnx 5 _
    obtain ⟨_, hga, _⟩ := HRA.out.row
    obtain ⟨a0, a1, _, _, _, _, _⟩ := lay_cell hga
    have HF2 := Lib.hid (HFIT.out _ HRA.out.below a0 a1)
    obtain ⟨_, hgx, _⟩ := hrx.row
    obtain ⟨_, _, _, _, a4, _, _⟩ := lay_cell hgx
    have m0 : ¬ g = Y.heap.size := hgn
    have m1 : ¬ Y.heap.size = g := fun e => hgn e.symm
    have hplen : ps.length ≤ 10000 := HPL.out
    clear hrx hnx x0 x1 x2 x5 xf ew hX hne hga hgx a0 a1 hgn HRZ HNZ
    go_wp2_with (first
      | (go_at_call 31; (with_reducible refine HF2.out.mono ?_); rintro e w3 ⟨rfl, hb3⟩; have HR4 := Lib.hid (Rep.bel HRA.out hb3); have HN4 := Lib.hid (blk_below HNA.out hb3); have e8 : w3.cell? ⟨Y.heap.size, 8, none⟩ = some (.bool false) := blk_cell HN4.out 8; have ef8 := blk_frozen HN4.out; obtain ⟨_, hg4, _⟩ := HR4.out.row; obtain ⟨_, _, _, _, _, _, a6⟩ := lay_cell hg4; have HRB := Lib.hid (Rep.far HR4.out HN4.out HNI.out HBN.out 8 (.bool (!R))); have HNB : Hid ((w3.setCell ⟨Y.heap.size, 8, none⟩ (.bool (!R))).heap[Y.heap.size]? = some (.cells (bkC { ({ start := s1.at_, indent := s1.at_, front := s.at_, pre := ⟨#[]⟩, long := top.slong, miser := false, each := false, lines := s1.lines, slong := false } : Bk) with miser := decide (W - s1.at_ ≤ M), slong := !R }) 69 (0, 0))) := blk_set HN4.out 8 _; clear hb3 hg4 e5 ef a4)
      | (at_builtin; refine wpList_append_own _ rfl _ _ 63 rfl w0.heap.size 67 t67 (.pointer none) 1 8 Tryd.underlying63 T0.out T1.out T2.out T3.out rfl (by decide) bv _ _ rfl (HRB.out.bl.alloc _) ⟨w3.heap.size, 0, none⟩ 1 1 [.pointer (some ⟨Y.heap.size, 0, none⟩)] rfl rfl ?c1 ?c2 ?c3 ?c4 ?c5 ?_))
    case c1 =>
      intro j u hj
      cases j with
      | succ j => simp at hj
      | zero =>
        obtain rfl := Option.some.inj hj
        rw [add_plain]
        have k := heap_alloc_new (w3.setCell ⟨Y.heap.size, 8, none⟩ (.bool (!R))) (.cells #[.pointer (some ⟨Y.heap.size, 0, none⟩)] 67)
        have e : (w3.setCell ⟨Y.heap.size, 8, none⟩ (.bool (!R))).heap.size = w3.heap.size := by simp [World.setCell]
        rw [e] at k
        exact blk_cell k 0
    case c2 => intro u hu; obtain rfl := List.mem_singleton.1 hu; rfl
    case c3 => unfold maxLen; omega
    case c4 => omega
    case c5 => exact Nat.le_trans HRB.out.below.size (by simp)
    intro v5 w5 hown5 hgrow5 _
    obtain ⟨A5, c5, rfl⟩ := own_slice hown5
    have HPS := Lib.hid (rep_push (Rep.bel HRB.out (new1 _ _)) (blk_below HNB.out (new1 _ _)) HNI.out HBN.out hgrow5 hown5)
    obtain ⟨_, hg5, _⟩ := (Rep.bel HRB.out (new1 _ (.cells #[.pointer (some ⟨Y.heap.size, 0, none⟩)] 67))).row
    have hg5' := blk_grown hg5 hgrow5 (own_ne (Rep.bel HRB.out (new1 _ (.cells #[.pointer (some ⟨Y.heap.size, 0, none⟩)] 67))).bl hg5 (by decide))
    obtain ⟨_, _, _, _, _, _, b6⟩ := lay_cell hg5'
    have bf := blk_frozen hg5'
    clear hown5 hgrow5 hg5 hg5' e8 ef8 a6
    go_wp2_with fail
    go_end0
    have := HPS.out
    rw [HSB.out] at this
    exact ⟨rfl, _, ps ++ [Y.heap.size], this⟩
  · have u1 : ∀ o, (Y.alloc o).cell? ⟨w.heap.size, 1, none⟩ = some (.string t) := fun o => (World.cell?_alloc_lt Y o _ (blk_lt HL3.out)).trans (blk_cell HL3.out 1)
    go_wp2_with fail
    obtain ⟨Z, hZ⟩ : ∃ Z, Y.alloc (.cells #[.int .i64 s1.at_, .int .i64 s1.at_, .int .i64 s.at_, .string t, .bool top.slong, .bool false, .bool true, .int .i64 s1.lines, .bool false] 69) = Z := ⟨_, rfl⟩
    rw [hZ]
    have hrz : Rep w0 g (.slice (some ad) l.length cap) W M bv ps s1 Z := by rw [← hZ]; exact Rep.bel HR3.out (new1 Y _)
    have hnz : Z.heap[Y.heap.size]? = some (.cells (bkC { start := s1.at_, indent := s1.at_, front := s.at_, pre := t, long := top.slong, miser := false, each := true, lines := s1.lines, slong := false }) 69 (0, 0)) := by rw [← hZ]; exact heap_alloc_new Y _
    clear hZ u4 u1
    have HRZ : Hid (Rep w0 g (.slice (some ad) l.length cap) W M bv ps s1 Z) := hrz
    have HNZ : Hid (Z.heap[Y.heap.size]? = some (.cells (bkC ({ start := s1.at_, indent := s1.at_, front := s.at_, pre := t, long := top.slong, miser := false, each := true, lines := s1.lines, slong := false } : Bk)) 69 (0, 0))) := hnz
    clear hrz hnz
    obtain ⟨_, hgz, _⟩ := HRZ.out.row
    obtain ⟨_, z1, z2, _, _, _, _⟩ := lay_cell hgz
    have hgn : g ≠ Y.heap.size := by
      intro e
      have h1 := HNZ.out
      rw [← e, hgz] at h1
      injection h1 with h1
      injection h1 with _ ht
      exact absurd ht (by decide)
    have x1 := ext_cell z1
    have x2 := ext_cell z2
    have x0 := ext_cell (show Z.cell? ⟨Y.heap.size, 0, none⟩ = some (.int .i64 s1.at_) from blk_cell HNZ.out 0)
    have x5 := ext_cell (show Z.cell? ⟨Y.heap.size, 5, none⟩ = some (.bool false) from blk_cell HNZ.out 5)
    have xf : ∀ x : Ext Z, ∀ i, x.val.frozen? ⟨Y.heap.size, i, none⟩ = false := fun x i => (x.hb.frozen (p := ⟨_, i, none⟩) (blk_lt HNZ.out)).trans (blk_frozen HNZ.out i)
    have ew : IntKind.i64.wrap (W - s1.at_) = W - s1.at_ := IntWalk.i64_in _ (by omega)
    have hne := ext_some Z
    clear hgz z1 z2
    refine wp_region_ext_tail (w0 := Z) 17 (by kernel_rfl) (by kernel_rfl) (Below.refl _ _) ?_
    simp only [List.take_succ_cons, List.take_zero, List.drop_succ_cons, List.drop_zero]
    repeat (go_big_quiet_step (fail))
    refine wpQuiet_nil ?_
    intro x
    obtain ⟨X, hX⟩ : ∃ X, x.val = X := ⟨_, rfl⟩
    have hrx : Rep w0 g (.slice (some ad) l.length cap) W M bv ps s1 X := by rw [← hX]; exact Rep.bel HRZ.out x.hb
    have hnx : X.heap[Y.heap.size]? = some (.cells (bkC ({ start := s1.at_, indent := s1.at_, front := s.at_, pre := t, long := top.slong, miser := false, each := true, lines := s1.lines, slong := false } : Bk)) 69 (0, 0)) := by rw [← hX]; exact blk_below HNZ.out x.hb
    have e5 := x5 x
    have ef := xf x
    rw [hX] at e5 ef ⊢
    have HRA := Lib.hid (hrx.far hnx HNI.out HBN.out 5 (.bool (decide (W - s1.at_ ≤ M))))
    have HNA : Hid ((X.setCell ⟨Y.heap.size, 5, none⟩ (.bool (decide (W - s1.at_ ≤ M)))).heap[Y.heap.size]? = some (.cells (bkC { ({ start := s1.at_, indent := s1.at_, front := s.at_, pre := t, long := top.slong, miser := false, each := true, lines := s1.lines, slong := false } : Bk) with miser := decide (W - s1.at_ ≤ M) }) 69 (0, 0))) := blk_set hnx 5 _
    obtain ⟨_, hga, _⟩ := HRA.out.row
    obtain ⟨a0, a1, _, _, _, _, _⟩ := lay_cell hga
    have HF2 := Lib.hid (HFIT.out _ HRA.out.below a0 a1)
    obtain ⟨_, hgx, _⟩ := hrx.row
    obtain ⟨_, _, _, _, a4, _, _⟩ := lay_cell hgx
    have m0 : ¬ g = Y.heap.size := hgn
    have m1 : ¬ Y.heap.size = g := fun e => hgn e.symm
    have hplen : ps.length ≤ 10000 := HPL.out
    clear hrx hnx x0 x1 x2 x5 xf ew hX hne hga hgx a0 a1 hgn HRZ HNZ
    go_wp2_with (first
      | (go_at_call 31; (with_reducible refine HF2.out.mono ?_); rintro e w3 ⟨rfl, hb3⟩; have HR4 := Lib.hid (Rep.bel HRA.out hb3); have HN4 := Lib.hid (blk_below HNA.out hb3); have e8 : w3.cell? ⟨Y.heap.size, 8, none⟩ = some (.bool false) := blk_cell HN4.out 8; have ef8 := blk_frozen HN4.out; obtain ⟨_, hg4, _⟩ := HR4.out.row; obtain ⟨_, _, _, _, _, _, a6⟩ := lay_cell hg4; have HRB := Lib.hid (Rep.far HR4.out HN4.out HNI.out HBN.out 8 (.bool (!R))); have HNB : Hid ((w3.setCell ⟨Y.heap.size, 8, none⟩ (.bool (!R))).heap[Y.heap.size]? = some (.cells (bkC { ({ start := s1.at_, indent := s1.at_, front := s.at_, pre := t, long := top.slong, miser := false, each := true, lines := s1.lines, slong := false } : Bk) with miser := decide (W - s1.at_ ≤ M), slong := !R }) 69 (0, 0))) := blk_set HN4.out 8 _; clear hb3 hg4 e5 ef a4)
      | (at_builtin; refine wpList_append_own _ rfl _ _ 63 rfl w0.heap.size 67 t67 (.pointer none) 1 8 Tryd.underlying63 T0.out T1.out T2.out T3.out rfl (by decide) bv _ _ rfl (HRB.out.bl.alloc _) ⟨w3.heap.size, 0, none⟩ 1 1 [.pointer (some ⟨Y.heap.size, 0, none⟩)] rfl rfl ?c1 ?c2 ?c3 ?c4 ?c5 ?_))
    case c1 =>
      intro j u hj
      cases j with
      | succ j => simp at hj
      | zero =>
        obtain rfl := Option.some.inj hj
        rw [add_plain]
        have k := heap_alloc_new (w3.setCell ⟨Y.heap.size, 8, none⟩ (.bool (!R))) (.cells #[.pointer (some ⟨Y.heap.size, 0, none⟩)] 67)
        have e : (w3.setCell ⟨Y.heap.size, 8, none⟩ (.bool (!R))).heap.size = w3.heap.size := by simp [World.setCell]
        rw [e] at k
        exact blk_cell k 0
    case c2 => intro u hu; obtain rfl := List.mem_singleton.1 hu; rfl
    case c3 => unfold maxLen; omega
    case c4 => omega
    case c5 => exact Nat.le_trans HRB.out.below.size (by simp)
    intro v5 w5 hown5 hgrow5 _
    obtain ⟨A5, c5, rfl⟩ := own_slice hown5
    have HPS := Lib.hid (rep_push (Rep.bel HRB.out (new1 _ _)) (blk_below HNB.out (new1 _ _)) HNI.out HBN.out hgrow5 hown5)
    obtain ⟨_, hg5, _⟩ := (Rep.bel HRB.out (new1 _ (.cells #[.pointer (some ⟨Y.heap.size, 0, none⟩)] 67))).row
    have hg5' := blk_grown hg5 hgrow5 (own_ne (Rep.bel HRB.out (new1 _ (.cells #[.pointer (some ⟨Y.heap.size, 0, none⟩)] 67))).bl hg5 (by decide))
    obtain ⟨_, _, _, _, _, _, b6⟩ := lay_cell hg5'
    have bf := blk_frozen hg5'
    clear hown5 hgrow5 hg5 hg5' e8 ef8 a6
    go_wp2_with fail
    go_end0
    have := HPS.out
    rw [HSB.out] at this
    exact ⟨rfl, _, ps ++ [Y.heap.size], this⟩
end Go.Proofs.YtljgpcaljedhpaaDoor
