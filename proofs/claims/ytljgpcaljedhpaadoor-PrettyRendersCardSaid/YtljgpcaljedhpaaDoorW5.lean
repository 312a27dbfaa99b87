/- breaks. -/
import Derived.Test.YtljgpcaljedhpaaDoorW4
namespace Go.Proofs.YtljgpcaljedhpaaDoor
open Go.RowKit

theorem fits_rep {E : World → Prop} (L : LibC E) (g : Nat) (A : Option Addr) (l : List Op) (cap fr : Nat) (width c0 : Int) (w : World) (hE : E w) (hops : OpsIn w A l)
    (hc0 : w.cell? ⟨g, 0, none⟩ = some (.slice A l.length cap)) (hc1 : w.cell? ⟨g, 1, none⟩ = some (.int .i64 width))
    (hok : ∀ x ∈ l, okOp x ∧ x.text.size ≤ 20000) (hfr : fr ≤ l.length) (hl : l.length ≤ 4000) (hcap : l.length ≤ cap) (h0 : 0 ≤ c0) (h1 : c0 ≤ 274877906944) (fi : Int) (hfi : fi = fr) (W : World) (hb : Below w.heap.size w W) :
    Calls Tryd.prog 31 #[.pointer (some ⟨g, 0, none⟩), .int .i64 fi, .int .i64 c0] W fun e w' => e = .returned (.bool (fitsP width (l.drop fr) 0 c0)) ∧ Below w.heap.size w w'  := by
  subst hfi
  exact (fits_any L g A l cap fr width c0 W (L.below hE hb) (hops.below hb) ((hb.cell (p := ⟨_, _, none⟩) (World.block_lt_of_cell? w _ hc0)).trans hc0) ((hb.cell (p := ⟨_, _, none⟩) (World.block_lt_of_cell? w _ hc1)).trans hc1) hok hfr hl hcap h0 h1).mono
    fun _ _ ⟨he, h⟩ => ⟨he, hb.trans (h.mono hb.size)⟩

theorem pack {w w' : World} {a b c d e : Addr} {va vb vc vd ve : Value} (ha : w.cell? a = some va) (hb : w.cell? b = some vb) (hc : w.cell? c = some vc) (hd : w.cell? d = some vd) (he : w.cell? e = some ve) (h : Below w.heap.size w w') :
    w'.cell? a = some va ∧ w'.cell? b = some vb ∧ w'.cell? c = some vc ∧ w'.cell? d = some vd ∧ w'.cell? e = some ve ∧ Below w.heap.size w w' :=
  ⟨(h.cell (World.block_lt_of_cell? w _ ha)).trans ha, (h.cell (World.block_lt_of_cell? w _ hb)).trans hb, (h.cell (World.block_lt_of_cell? w _ hc)).trans hc, (h.cell (World.block_lt_of_cell? w _ hd)).trans hd, (h.cell (World.block_lt_of_cell? w _ he)).trans he, h⟩
theorem below_drew' {B : Nat} {w W : World} (h : Below B w W) : Below B w W.drew := ⟨h.os, h.tape, h.output, h.size, h.block⟩

/-- A later world, in which only new blocks have come. -/
structure Ext (w : World) where
  val : World
  hb : Below w.heap.size w val

/-- A region that draws its order, whose operations read, and whose calls may make memory: one walk in the text's order. -/
theorem wp_region_ext {P : Program} {id : Nat} {Q : Exit → Act → World → Prop} {a : Act} {w w0 : World} {l : List Oper} (hm : P.follows .mixedOrders = true) (hB : Region.lexB .any l.toArray = true) (hb : Below w0.heap.size w0 w)
    (h : wpQuiet P l.toArray (fun w' => ∃ x : Ext w0, w' = x.val) (fun a' => ∀ w', (∃ x : Ext w0, w' = x.val) → Q .normal a' w') l a) : (Code.region id l.toArray true).wp P Q a w :=
  wp_region_quiet (C := fun w' => ∃ x : Ext w0, w' = x.val) hm hB ⟨⟨w.drew, below_drew' hb⟩, rfl⟩ (by simpa using h)

theorem ext_some (w : World) : Nonempty (Ext w) := ⟨⟨w, Below.refl _ _⟩⟩
theorem ext_cell {w : World} {a : Addr} {v : Value} (h : w.cell? a = some v) (x : Ext w) : x.val.cell? a = some v := (x.hb.cell (World.block_lt_of_cell? w _ h)).trans h

set_option maxRecDepth 100000 in
set_option maxHeartbeats 2000000 in
/-- breaks, at a Fill newline. -/
theorem breaks_fill {E : World → Prop} (L : LibC E) (g p : Nat) (A : Option Addr) (l : List Op) (cap i : Nat) (width c0 lines bl : Int) (lg mi : Bool) (k : Int) (t : ByteArray) (n m : Int) (f : Bool) (w : World) (hE : E w) (hops : OpsIn w A l)
    (hc0 : w.cell? ⟨g, 0, none⟩ = some (.slice A l.length cap)) (hc1 : w.cell? ⟨g, 1, none⟩ = some (.int .i64 width)) (g4 : w.cell? ⟨g, 4, none⟩ = some (.int .i64 c0)) (g5 : w.cell? ⟨g, 5, none⟩ = some (.int .i64 lines))
    (p4 : w.cell? ⟨p, 4, none⟩ = some (.bool lg)) (p5 : w.cell? ⟨p, 5, none⟩ = some (.bool mi)) (p7 : w.cell? ⟨p, 7, none⟩ = some (.int .i64 bl))
    (hok : ∀ x ∈ l, okOp x ∧ x.text.size ≤ 20000) (hi : i < l.length) (hl : l.length ≤ 4000) (hcap : l.length ≤ cap) (h0 : 0 ≤ c0) (h1 : c0 ≤ 274877906944) (n3 : ¬ n = 3) (n0 : ¬ n = 0) (n2 : ¬ n = 2) :
    Calls Tryd.prog 53 #[.pointer (some ⟨g, 0, none⟩), .agg #[.int .i64 k, .string t, .int .i64 n, .int .i64 m, .bool f], .pointer (some ⟨p, 0, none⟩), .int .i64 i] w fun e w' =>
      e = .returned (.bool ((!fitsP width (l.drop (i + 1)) 0 c0) || (bl != lines) || (lg && mi))) ∧ Below w.heap.size w w' := by
  have hf := fits_rep L g A l cap (i + 1) width c0 w hE hops hc0 hc1 hok (by omega) hl hcap h0 h1 ((i : Int) + 1) (by omega)
  generalize fitsP width (l.drop (i + 1)) 0 c0 = R at *
  have HF := Lib.hid hf
  have x4 := ext_cell g4
  have x5 := ext_cell g5
  have y4 := ext_cell p4
  have y5 := ext_cell p5
  have y7 := ext_cell p7
  have hi1 : (i : Int) ≤ 4000 := by omega
  have hi2 : (0 : Int) ≤ (i : Int) := Int.natCast_nonneg _
  clear hf hops hc0 hc1 hok hE p4 p5 p7 g4 g5
  have hne := ext_some w
  cases R
  · go_enter Tryd.func53, Tryd.ntmps53
    go_wp2
    have e1 : IntKind.i64.wrap ((i : Int) + 1) = (i : Int) + 1 := IntWalk.i64_in _ (by omega)
    refine wp_region_ext (by kernel_rfl) (by kernel_rfl) (new1 w _) ?_
    repeat (go_big_quiet_step ((go_at_call 31; exact (HF.out _ (Ext.hb _)).mono fun _ _ ⟨he, h⟩ => ⟨he, ⟨_, h⟩, rfl⟩)))
    refine wpQuiet_nil ?_
    intro _ hw'
    obtain ⟨x, rfl⟩ := hw'
    go_wp2
    go_ret
    exact ⟨rfl, x.hb⟩
  cases hbl : (bl != lines)
  · cases lg
    · go_enter Tryd.func53, Tryd.ntmps53
      go_wp2
      have e1 : IntKind.i64.wrap ((i : Int) + 1) = (i : Int) + 1 := IntWalk.i64_in _ (by omega)
      refine wp_region_ext (by kernel_rfl) (by kernel_rfl) (new1 w _) ?_
      repeat (go_big_quiet_step ((go_at_call 31; exact (HF.out _ (Ext.hb _)).mono fun _ _ ⟨he, h⟩ => ⟨he, ⟨_, h⟩, rfl⟩)))
      refine wpQuiet_nil ?_
      intro _ hw'
      obtain ⟨x, rfl⟩ := hw'
      go_wp2
      go_ret
      exact ⟨rfl, x.hb⟩
    · cases mi
      · go_enter Tryd.func53, Tryd.ntmps53
        go_wp2
        have e1 : IntKind.i64.wrap ((i : Int) + 1) = (i : Int) + 1 := IntWalk.i64_in _ (by omega)
        refine wp_region_ext (by kernel_rfl) (by kernel_rfl) (new1 w _) ?_
        repeat (go_big_quiet_step ((go_at_call 31; exact (HF.out _ (Ext.hb _)).mono fun _ _ ⟨he, h⟩ => ⟨he, ⟨_, h⟩, rfl⟩)))
        refine wpQuiet_nil ?_
        intro _ hw'
        obtain ⟨x, rfl⟩ := hw'
        go_wp2
        go_ret
        exact ⟨rfl, x.hb⟩
      · go_enter Tryd.func53, Tryd.ntmps53
        go_wp2
        have e1 : IntKind.i64.wrap ((i : Int) + 1) = (i : Int) + 1 := IntWalk.i64_in _ (by omega)
        refine wp_region_ext (by kernel_rfl) (by kernel_rfl) (new1 w _) ?_
        repeat (go_big_quiet_step ((go_at_call 31; exact (HF.out _ (Ext.hb _)).mono fun _ _ ⟨he, h⟩ => ⟨he, ⟨_, h⟩, rfl⟩)))
        refine wpQuiet_nil ?_
        intro _ hw'
        obtain ⟨x, rfl⟩ := hw'
        go_wp2
        go_ret
        exact ⟨rfl, x.hb⟩
  · go_enter Tryd.func53, Tryd.ntmps53
    go_wp2
    have e1 : IntKind.i64.wrap ((i : Int) + 1) = (i : Int) + 1 := IntWalk.i64_in _ (by omega)
    refine wp_region_ext (by kernel_rfl) (by kernel_rfl) (new1 w _) ?_
    repeat (go_big_quiet_step ((go_at_call 31; exact (HF.out _ (Ext.hb _)).mono fun _ _ ⟨he, h⟩ => ⟨he, ⟨_, h⟩, rfl⟩)))
    refine wpQuiet_nil ?_
    intro _ hw'
    obtain ⟨x, rfl⟩ := hw'
    go_wp2
    go_ret
    exact ⟨rfl, x.hb⟩

set_option maxRecDepth 100000 in
set_option maxHeartbeats 1000000 in
/-- breaks. -/
theorem breaks_any {E : World → Prop} (L : LibC E) (g p : Nat) (A : Option Addr) (l : List Op) (cap i : Nat) (width : Int) (s : St) (top : Bk) (x : Op) (w : World) (hE : E w) (hops : OpsIn w A l)
    (hc0 : w.cell? ⟨g, 0, none⟩ = some (.slice A l.length cap)) (hc1 : w.cell? ⟨g, 1, none⟩ = some (.int .i64 width)) (g4 : w.cell? ⟨g, 4, none⟩ = some (.int .i64 s.at_)) (g5 : w.cell? ⟨g, 5, none⟩ = some (.int .i64 s.lines))
    (p4 : w.cell? ⟨p, 4, none⟩ = some (.bool top.long)) (p5 : w.cell? ⟨p, 5, none⟩ = some (.bool top.miser)) (p7 : w.cell? ⟨p, 7, none⟩ = some (.int .i64 top.lines))
    (hok : ∀ x ∈ l, okOp x ∧ x.text.size ≤ 20000) (hi : i < l.length) (hl : l.length ≤ 4000) (hcap : l.length ≤ cap) (h0 : 0 ≤ s.at_) (h1 : s.at_ ≤ 274877906944) :
    Calls Tryd.prog 53 #[.pointer (some ⟨g, 0, none⟩), .agg #[.int .i64 x.kind, .string x.text, .int .i64 x.n, .int .i64 x.m, .bool x.flag], .pointer (some ⟨p, 0, none⟩), .int .i64 i] w fun e w' =>
      e = .returned (.bool (breaksP width s top x (l.drop (i + 1)))) ∧ Below w.heap.size w w' := by
  obtain ⟨k, t, n, m, f⟩ := x
  simp only
  unfold breaksP
  simp only
  by_cases n3 : n = 3
  · subst n3
    rw [if_pos rfl]
    clear hops hok hE
    go_enter Tryd.func53, Tryd.ntmps53
    go_wp2
    go_ret
    exact ⟨rfl, new1 _ _⟩
  rw [if_neg n3]
  by_cases n0 : n = 0
  · subst n0
    rw [if_pos rfl]
    have q4 : ∀ o, (w.alloc o).cell? ⟨p, 4, none⟩ = some (.bool top.long) := fun o => (World.cell?_alloc_lt w o _ (World.block_lt_of_cell? w _ p4)).trans p4
    clear hops hok hE n3
    go_enter Tryd.func53, Tryd.ntmps53
    go_wp2
    go_ret
    exact ⟨rfl, new1 _ _⟩
  rw [if_neg n0]
  by_cases n2 : n = 2
  · subst n2
    rw [if_pos rfl]
    have q4 : ∀ o, (w.alloc o).cell? ⟨p, 4, none⟩ = some (.bool top.long) := fun o => (World.cell?_alloc_lt w o _ (World.block_lt_of_cell? w _ p4)).trans p4
    have q5 : ∀ o, (w.alloc o).cell? ⟨p, 5, none⟩ = some (.bool top.miser) := fun o => (World.cell?_alloc_lt w o _ (World.block_lt_of_cell? w _ p5)).trans p5
    clear hops hok hE n3 n0
    generalize top.long = lg at *
    generalize top.miser = mi at *
    cases lg
    · go_enter Tryd.func53, Tryd.ntmps53
      go_wp2
      go_ret
      exact ⟨rfl, new1 _ _⟩
    · go_enter Tryd.func53, Tryd.ntmps53
      go_wp2
      go_ret
      exact ⟨rfl, new1 _ _⟩
  rw [if_neg n2]
  exact breaks_fill L g p A l cap i width s.at_ s.lines top.lines top.long top.miser k t n m f w hE hops hc0 hc1 g4 g5 p4 p5 p7 hok hi hl hcap h0 h1 n3 n0 n2
end Go.Proofs.YtljgpcaljedhpaaDoor
