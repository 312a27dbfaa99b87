/- The layout in memory, and put. -/
import Derived.Test.YtljgpcaljedhpaaDoorW3
import Derived.Lib.AppendStr
import Derived.WalkSmall
import Derived.WalkLawsBesides
import Derived.Deep.RegionLaw
import Derived.StillTailTactics
namespace Go.Proofs.YtljgpcaljedhpaaDoor
open Go.RowKit

theorem info5 : (Tryd.prog.info? 5).map (fun i => (i.zero, i.size, i.bytes)) = some (some (.int .u8 0), 1, 1) := by kernel_rfl

/-- Bytes as cells. -/
def bs (l : List UInt8) : List Value := l.map fun b => Value.int .u8 b.toNat
/-- A block's cells. -/
def bkC (b : Bk) : Array Value := #[.int .i64 b.start, .int .i64 b.indent, .int .i64 b.front, .string b.pre, .bool b.long, .bool b.miser, .bool b.each, .int .i64 b.lines, .bool b.slong]
/-- The layout's cells. -/
def layC (ov : Value) (W M : Int) (outv : Value) (c n : Int) (bv : Value) : Array Value := #[ov, .int .i64 W, .int .i64 M, outv, .int .i64 c, .int .i64 n, bv]

/-- The layout x (block g) reads as the state s; w0: the world in which the call began; bv, ps: the row of pointers to the open blocks. -/
structure Rep (w0 : World) (g : Nat) (ov : Value) (W M : Int) (bv : Value) (ps : List Nat) (s : St) (w : World) : Prop where
  below : Below w0.heap.size w0 w
  gb : w0.heap.size ≤ g
  row : ∃ outv, w.heap[g]? = some (.cells (layC ov W M outv s.at_ s.lines bv) 65 (0, 0)) ∧ w.ownsRow w0.heap.size 5 1 outv s.out.length (bs s.out)
  bl : w.ownsRow w0.heap.size 67 1 bv ps.length (ps.map fun p => .pointer (some ⟨p, 0, none⟩))
  blks : ∀ (j p : Nat) (b : Bk), ps[j]? = some p → s.blocks[j]? = some b → w0.heap.size ≤ p ∧ w.heap[p]? = some (.cells (bkC b) 69 (0, 0))
  nodup : ps.Nodup
  len : ps.length = s.blocks.length

theorem blk_lt {w : World} {g : Nat} {o : Obj} (h : w.heap[g]? = some o) : g < w.heap.size := (Array.getElem?_eq_some_iff.1 h).1
theorem blk_cell {w : World} {g : Nat} {t : TypeId} {cs : Array Value} (h : w.heap[g]? = some (.cells cs t (0, 0))) (i : Nat) : w.cell? ⟨g, i, none⟩ = cs[i]? := cell_of_row w g i cs t (0, 0) h
theorem blk_frozen {w : World} {g : Nat} {t : TypeId} {cs : Array Value} (h : w.heap[g]? = some (.cells cs t (0, 0))) (i : Nat) : w.frozen? ⟨g, i, none⟩ = false := by simp [World.frozen?, h]
theorem blk_set {w : World} {g : Nat} {t : TypeId} {cs : Array Value} (h : w.heap[g]? = some (.cells cs t (0, 0))) (i : Nat) (u : Value) : (w.setCell ⟨g, i, none⟩ u).heap[g]? = some (.cells (cs.setIfInBounds i u) t (0, 0)) := by
  simp [World.setCell, Array.getElem?_modify, h]
theorem blk_far {w : World} {g : Nat} {o : Obj} (h : w.heap[g]? = some o) {p : Addr} (hp : g ≠ p.block) (u : Value) : (w.setCell p u).heap[g]? = some o := (Below.heap_setCell w p u g hp).trans h
theorem blk_below {w w1 : World} {g : Nat} {o : Obj} (h : w.heap[g]? = some o) (hb : Below w.heap.size w w1) : w1.heap[g]? = some o := (hb.block g (blk_lt h)).trans h
theorem blk_grown {w w1 : World} {g : Nat} {o : Obj} {row : Option Nat} (h : w.heap[g]? = some o) (hg : w.grownBy w1 row) (hne : some g ≠ row) : w1.heap[g]? = some o := (hg.block g (blk_lt h) hne).trans h
theorem own_ne {w : World} {base : Nat} {e t : TypeId} {size n g : Nat} {v : Value} {xs : List Value} {cs : Array Value} (h : w.ownsRow base e size v n xs) (hg : w.heap[g]? = some (.cells cs t (0, 0))) (hne : e ≠ t) : some g ≠ v.ownBlock := by
  rcases h.2 with ⟨rfl, _⟩ | ⟨g', cap, cur, rfl, _, hh, _⟩
  · simp [Value.ownBlock]
  · intro he
    have : g = g' := by simpa [Value.ownBlock] using he
    subst this
    rw [hg] at hh
    injection hh with hh
    injection hh with _ ht
    exact hne ht.symm
theorem own_own_ne {w : World} {base base' : Nat} {e e' : TypeId} {size size' n n' : Nat} {v v' : Value} {xs xs' : List Value} (h : w.ownsRow base e size v n xs) (h' : w.ownsRow base' e' size' v' n' xs') (hne : e ≠ e') : v.ownBlock = none ∨ v.ownBlock ≠ v'.ownBlock := by
  rcases h.2 with ⟨rfl, _⟩ | ⟨g, cap, cur, rfl, _, hh, _⟩
  · exact .inl rfl
  · exact .inr (own_ne h' hh (Ne.symm hne))
theorem own_below {w w1 : World} {base : Nat} {e : TypeId} {size n : Nat} {v : Value} {xs : List Value} (h : w.ownsRow base e size v n xs) (hb : Below w.heap.size w w1) : w1.ownsRow base e size v n xs :=
  h.kept (row := none) ⟨hb.os, hb.tape, hb.output, hb.size, fun i hi _ => hb.block i hi⟩ (by cases hv : v.ownBlock <;> simp)
theorem own_set {w : World} {base : Nat} {e : TypeId} {size n : Nat} {v : Value} {xs : List Value} (h : w.ownsRow base e size v n xs) {p : Addr} (hne : some p.block ≠ v.ownBlock) (u : Value) : (w.setCell p u).ownsRow base e size v n xs := by
  obtain ⟨h1, h2⟩ := h
  refine ⟨h1, ?_⟩
  rcases h2 with h2 | ⟨g, cap, cur, hv, hg, hh, r⟩
  · exact .inl h2
  · refine .inr ⟨g, cap, cur, hv, hg, ?_, r⟩
    rw [Below.heap_setCell]
    · exact hh
    · rintro rfl
      exact hne (by rw [hv]; rfl)

theorem own_slice {w : World} {base n : Nat} {e : TypeId} {size : Nat} {v : Value} {xs : List Value} (h : w.ownsRow base e size v n xs) : ∃ A c, v = .slice A n c := by
  rcases h.2 with ⟨rfl, rfl⟩ | ⟨g, cap, _, rfl, _⟩
  · exact ⟨_, _, rfl⟩
  · exact ⟨_, _, rfl⟩
theorem lay_cell {w : World} {g : Nat} {ov : Value} {W M c n : Int} {outv bv : Value} (h : w.heap[g]? = some (.cells (layC ov W M outv c n bv) 65 (0, 0))) :
    w.cell? ⟨g, 0, none⟩ = some ov ∧ w.cell? ⟨g, 1, none⟩ = some (.int .i64 W) ∧ w.cell? ⟨g, 2, none⟩ = some (.int .i64 M) ∧ w.cell? ⟨g, 3, none⟩ = some outv ∧ w.cell? ⟨g, 4, none⟩ = some (.int .i64 c) ∧ w.cell? ⟨g, 5, none⟩ = some (.int .i64 n) ∧ w.cell? ⟨g, 6, none⟩ = some bv :=
  ⟨blk_cell h 0, blk_cell h 1, blk_cell h 2, blk_cell h 3, blk_cell h 4, blk_cell h 5, blk_cell h 6⟩

section
variable {w : World} {g : Nat} {ov : Value} {W M c n : Int} {outv bv : Value} (h : w.heap[g]? = some (.cells (layC ov W M outv c n bv) 65 (0, 0)))
include h
theorem lay3 (u : Value) : (w.setCell ⟨g, 3, none⟩ u).heap[g]? = some (.cells (layC ov W M u c n bv) 65 (0, 0)) := by rw [blk_set h 3 u]; rfl
theorem lay4 (u : Int) : (w.setCell ⟨g, 4, none⟩ (.int .i64 u)).heap[g]? = some (.cells (layC ov W M outv u n bv) 65 (0, 0)) := by rw [blk_set h 4 _]; rfl
theorem lay5 (u : Int) : (w.setCell ⟨g, 5, none⟩ (.int .i64 u)).heap[g]? = some (.cells (layC ov W M outv c u bv) 65 (0, 0)) := by rw [blk_set h 5 _]; rfl
theorem lay6 (u : Value) : (w.setCell ⟨g, 6, none⟩ u).heap[g]? = some (.cells (layC ov W M outv c n u) 65 (0, 0)) := by rw [blk_set h 6 u]; rfl
end

/-- What lies beside the layout's own block and its bytes. -/
structure Rest (w0 : World) (bv : Value) (ps : List Nat) (bks : List Bk) (w : World) : Prop where
  below : Below w0.heap.size w0 w
  bl : w.ownsRow w0.heap.size 67 1 bv ps.length (ps.map fun p => .pointer (some ⟨p, 0, none⟩))
  blks : ∀ (j p : Nat) (b : Bk), ps[j]? = some p → bks[j]? = some b → w0.heap.size ≤ p ∧ w.heap[p]? = some (.cells (bkC b) 69 (0, 0))
  nodup : ps.Nodup
  len : ps.length = bks.length
theorem Rep.rest {w0 : World} {g : Nat} {ov : Value} {W M : Int} {bv : Value} {ps : List Nat} {s : St} {w : World} (h : Rep w0 g ov W M bv ps s w) : Rest w0 bv ps s.blocks w := ⟨h.below, h.bl, h.blks, h.nodup, h.len⟩
theorem Rest.rep {w0 : World} {g : Nat} {ov : Value} {W M : Int} {bv : Value} {ps : List Nat} {s : St} {w : World} {outv : Value} (h : Rest w0 bv ps s.blocks w) (hg : w0.heap.size ≤ g)
    (hb : w.heap[g]? = some (.cells (layC ov W M outv s.at_ s.lines bv) 65 (0, 0))) (ho : w.ownsRow w0.heap.size 5 1 outv s.out.length (bs s.out)) : Rep w0 g ov W M bv ps s w :=
  ⟨h.below, hg, ⟨outv, hb, ho⟩, h.bl, h.blks, h.nodup, h.len⟩
section
variable {w0 : World} {bv : Value} {ps : List Nat} {bks : List Bk} {w w1 : World} (h : Rest w0 bv ps bks w)
include h
theorem Rest.grown {v : Value} {n : Nat} {xs : List Value} (hg : w.grownBy w1 v.ownBlock) (ho : w.ownsRow w0.heap.size 5 1 v n xs) : Rest w0 bv ps bks w1 :=
  ⟨h.below.grown hg h.below.size (fun k hk => (ho.lt k hk).1), h.bl.kept hg (own_own_ne h.bl ho (by decide)), fun j p b hp hb => ⟨(h.blks j p b hp hb).1, blk_grown (h.blks j p b hp hb).2 hg (own_ne ho (h.blks j p b hp hb).2 (by decide))⟩, h.nodup, h.len⟩
theorem Rest.bel (hb : Below w.heap.size w w1) : Rest w0 bv ps bks w1 :=
  ⟨h.below.trans (hb.mono h.below.size), own_below h.bl hb, fun j p b hp hk => ⟨(h.blks j p b hp hk).1, blk_below (h.blks j p b hp hk).2 hb⟩, h.nodup, h.len⟩
theorem Rest.set_ {g : Nat} {cs : Array Value} (hg : w0.heap.size ≤ g) (hb : w.heap[g]? = some (.cells cs 65 (0, 0))) (i : Nat) (u : Value) : Rest w0 bv ps bks (w.setCell ⟨g, i, none⟩ u) := by
  refine ⟨h.below.setCell hg u, own_set h.bl (own_ne h.bl hb (by decide)) u, fun j p b hp hk => ⟨(h.blks j p b hp hk).1, blk_far (h.blks j p b hp hk).2 ?_ u⟩, h.nodup, h.len⟩
  rintro rfl
  have := (h.blks j p b hp hk).2
  rw [hb] at this
  injection this with this
  injection this with _ ht
  exact absurd ht (by decide)
end
theorem below_drew {B : Nat} {w W : World} (h : Below B w W) : Below B w W.drew := ⟨h.os, h.tape, h.output, h.size, h.block⟩
theorem Rep.drew {w0 : World} {g : Nat} {ov : Value} {W M : Int} {bv : Value} {ps : List Nat} {s : St} {w : World} (h : Rep w0 g ov W M bv ps s w) : Rep w0 g ov W M bv ps s w.drew := ⟨below_drew h.below, h.gb, h.row, h.bl, h.blks, h.nodup, h.len⟩

/-- What a put leaves alone: each block that is no row of bytes, but the layout's own. -/
def Keep (w w' : World) (g : Nat) : Prop := ∀ (i : Nat) (cs : Array Value) (t : TypeId), w.heap[i]? = some (.cells cs t (0, 0)) → i ≠ g → t ≠ 5 → w'.heap[i]? = some (.cells cs t (0, 0))
theorem keep_put {w w1 w2 : World} {g n base : Nat} {v outv u4 u5 : Value} {xs : List Value} (ho : w.ownsRow base 5 1 outv n xs) (hg1 : w.grownBy w1 outv.ownBlock) (hb2 : Below (w1.setCell ⟨g, 3, none⟩ v).heap.size (w1.setCell ⟨g, 3, none⟩ v) w2) :
    Keep w ((w2.setCell ⟨g, 4, none⟩ u4).setCell ⟨g, 5, none⟩ u5).drew g := fun i cs t h hi ht => by
  have h1 := blk_grown h hg1 (own_ne ho h (Ne.symm ht))
  have h2 := blk_below (blk_far h1 (p := ⟨g, 3, none⟩) hi v) hb2
  exact blk_far (blk_far h2 (p := ⟨g, 4, none⟩) hi u4) (p := ⟨g, 5, none⟩) hi u5

theorem rep_put {w0 : World} {g : Nat} {ov : Value} {W M : Int} {bv : Value} {ps : List Nat} {s : St} {w w1 w2 : World} {t : ByteArray} {outv v1 : Value} (h : Rep w0 g ov W M bv ps s w)
    (ho : w.ownsRow w0.heap.size 5 1 outv s.out.length (bs s.out)) (hg1 : w.grownBy w1 outv.ownBlock)
    (ho1 : w1.ownsRow w0.heap.size 5 1 v1 (s.out.length + t.size) (bs s.out ++ Lib.strCells t)) (hb1 : w1.heap[g]? = some (.cells (layC ov W M outv s.at_ s.lines bv) 65 (0, 0)))
    (hb2 : Below (w1.setCell ⟨g, 3, none⟩ v1).heap.size (w1.setCell ⟨g, 3, none⟩ v1) w2) (c n : Int) (s' : St) (e1 : s'.out = s.out ++ t.data.toList) (e2 : s'.at_ = c) (e3 : s'.lines = n) (e4 : s'.blocks = s.blocks) :
    Rep w0 g ov W M bv ps s' ((w2.setCell ⟨g, 4, none⟩ (.int .i64 c)).setCell ⟨g, 5, none⟩ (.int .i64 n)) := by
  have hn1 := own_ne ho1 hb1 (by decide)
  have k3 := lay3 hb1 v1
  have k2 := blk_below k3 hb2
  have k4 := lay4 k2 c
  have k5 := lay5 k4 n
  have r := ((((h.rest.grown hg1 ho).set_ h.gb hb1 3 v1).bel hb2).set_ h.gb k2 4 (.int .i64 c)).set_ h.gb k4 5 (.int .i64 n)
  have o2 := own_below (own_set ho1 (p := ⟨g, 3, none⟩) hn1 v1) hb2
  have o4 := own_set o2 (p := ⟨g, 4, none⟩) hn1 (.int .i64 c)
  have o5 := own_set o4 (p := ⟨g, 5, none⟩) hn1 (.int .i64 n)
  subst e2 e3
  refine Rest.rep (outv := v1) (by rw [e4]; exact r) h.gb k5 ?_
  rw [e1]
  have : (s.out ++ t.data.toList).length = s.out.length + t.size := by rw [List.length_append, Array.length_toList]; rfl
  rw [this]
  have e : bs (s.out ++ t.data.toList) = bs s.out ++ Lib.strCells t := by simp [bs, Lib.strCells]
  rw [e]
  exact o5

set_option maxRecDepth 100000 in
set_option maxHeartbeats 1000000 in
theorem put_full {E : World → Prop} (L : LibC E) (w0 : World) (g : Nat) (ov : Value) (W M : Int) (bv : Value) (ps : List Nat) (s : St) (t : ByteArray) (w : World) (h : Rep w0 g ov W M bv ps s w)
    (hk : (putRaw s t).out.length ≤ 100000) (c0 : 0 ≤ s.at_) (c1 : s.at_ ≤ 274877906944) (n0 : 0 ≤ s.lines) (n1 : s.lines ≤ 274877906944) :
    Calls Tryd.prog 52 #[.pointer (some ⟨g, 0, none⟩), .string t] w fun e w' => e = .returned (.tuple #[]) ∧ Rep w0 g ov W M bv ps (putRaw s t) w' ∧ Keep w w' g := by
  obtain ⟨i0, hi0, hz0, hz1, hz2⟩ := info_parts info5
  obtain ⟨outv, hblk, hown⟩ := h.row
  have hlen : s.out.length + t.size ≤ 100000 := by simpa [putRaw] using hk
  have hcol := fun W => column_any L s.at_ t W c0 (by omega) (by omega)
  have hcc : Lib.countByte t.data.toList 10 ≤ t.size := List.count_le_length
  have H0 := Lib.hid hi0
  have H1 := Lib.hid hz0
  have H2 := Lib.hid hz1
  have H3 := Lib.hid hz2
  have e3 : w.cell? ⟨g, 3, none⟩ = some outv := blk_cell hblk 3
  have hne := own_ne hown hblk (by decide)
  have hbase : w0.heap.size ≤ w.heap.size := h.below.size
  have HC := Lib.hid hcol
  have HB := Lib.hid hblk
  have HO := Lib.hid hown
  have hbytes : s.out.length + t.size ≤ 140737488355328 := by omega
  have hmax : s.out.length + t.size ≤ maxLen := by unfold maxLen; omega
  have HX := Lib.hid hmax
  have HY := Lib.hid hbytes
  have HH := Lib.hid h
  have HN := Lib.hid hne
  have hlen' : ((s.out.length + t.size : Nat) : Int) ≤ 100000 := by omega
  have hts : t.size ≤ 100000 := by omega
  clear hcol hblk hown hmax hbytes hlen hk h hne hz0 hz1 hz2 hi0
  go_enter Tryd.func52, Tryd.ntmps52
  go_wp2_with (at_builtin; refine Lib.wpList_append_own_string _ rfl _ _ _ _ rfl w0.heap.size 5 i0 Tryd.underlying22 Tryd.underlying9 H0.out H1.out H2.out H3.out outv _ _ rfl HO.out t rfl HX.out HY.out hbase ?_; intro v1 w1 hown1 hg1 _; obtain ⟨A1, cap1, rfl⟩ := own_slice hown1; have HB1 := Lib.hid (blk_grown HB.out hg1 HN.out); have HO1 := Lib.hid hown1; have HG1 := Lib.hid hg1; obtain ⟨f0, f1, f2, f3, f4, f5, f6⟩ := lay_cell HB1.out; have ff := blk_frozen HB1.out; clear hown1 hg1 e3)
  refine (HC.out _).mono ?_
  rintro e w2 ⟨rfl, hb2⟩
  have HB2 := Lib.hid (blk_below (lay3 HB1.out _) hb2)
  have HZ2 := Lib.hid hb2
  clear f0 f1 f2 f3 f4 f5 f6 ff hb2
  obtain ⟨f0, f1, f2, f3, f4, f5, f6⟩ := lay_cell HB2.out
  have ff := blk_frozen HB2.out
  go_wp2_with fail
  have HB3 := Lib.hid (lay4 HB2.out (colP s.at_ t))
  clear f0 f1 f2 f3 f4 f5 f6 ff
  obtain ⟨W3, hW3⟩ : ∃ W3, w2.setCell ⟨g, 4, none⟩ (.int .i64 (colP s.at_ t)) = W3 := ⟨_, rfl⟩
  rw [hW3] at HB3 ⊢
  have HW3 := Lib.hid hW3
  clear hW3
  obtain ⟨f0, f1, f2, f3, f4, f5, f6⟩ := lay_cell HB3.out
  have ff := blk_frozen HB3.out
  clear f0 f1 f2 f4 f6
  have cc0 : (0 : Int) ≤ (Lib.countByte t.data.toList 10 : Int) := Int.natCast_nonneg _
  have cc1 : (Lib.countByte t.data.toList 10 : Int) ≤ 1000000 := by omega
  go_region_with ((go_at_call 10; refine (L.cnt t _).mono ?_; rintro e w' ⟨rfl, rfl⟩))
  all_goals
    go_wp2_with fail
    go_end0
    exact ⟨rfl, by
      have hW := HW3.out
      subst hW
      exact ⟨(rep_put HH.out HO.out HG1.out HO1.out HB1.out HZ2.out _ _ (putRaw s t) rfl rfl rfl rfl).drew, keep_put HO.out HG1.out HZ2.out⟩⟩

theorem put_any {E : World → Prop} (L : LibC E) (w0 : World) (g : Nat) (ov : Value) (W M : Int) (bv : Value) (ps : List Nat) (s : St) (t : ByteArray) (w : World) (h : Rep w0 g ov W M bv ps s w)
    (hk : (putRaw s t).out.length ≤ 100000) (c0 : 0 ≤ s.at_) (c1 : s.at_ ≤ 274877906944) (n0 : 0 ≤ s.lines) (n1 : s.lines ≤ 274877906944) :
    Calls Tryd.prog 52 #[.pointer (some ⟨g, 0, none⟩), .string t] w fun e w' => e = .returned (.tuple #[]) ∧ Rep w0 g ov W M bv ps (putRaw s t) w' :=
  (put_full L w0 g ov W M bv ps s t w h hk c0 c1 n0 n1).mono fun _ _ ⟨he, h, _⟩ => ⟨he, h⟩
end Go.Proofs.YtljgpcaljedhpaaDoor
