/- The reference's begun, walked. -/
import Derived.Test.YtljgpcaljedhpaaDoorS3
namespace Go.Proofs.YtljgpcaljedhpaaDoor
open Go.RowKit

def rbC (l : List Bk) : List Value := l.flatMap rbkC
theorem rbC_len (l : List Bk) : (rbC l).length = l.length * 9 := by
  unfold rbC
  induction l with
  | nil => rfl
  | cons x l ih => rw [List.flatMap_cons, List.length_append, ih]; simp [rbkC]; omega
theorem rbC_append (l r : List Bk) : rbC (l ++ r) = rbC l ++ rbC r := by unfold rbC; exact List.flatMap_append
theorem rbC_get (l : List Bk) : ∀ (i : Nat) (x : Bk), l[i]? = some x → ∀ k, k < 9 → (rbC l)[i * 9 + k]? = (rbkC x)[k]? := by
  induction l with
  | nil => intro i x h; simp at h
  | cons y l ih =>
    intro i x h k hk
    unfold rbC
    rw [List.flatMap_cons]
    cases i with
    | zero =>
      obtain rfl : y = x := by simpa using h
      rw [List.getElem?_append_left (by simp [rbkC]; omega), Nat.zero_mul, Nat.zero_add]
    | succ i =>
      rw [List.getElem?_append_right (by simp [rbkC]; omega)]
      rw [show (i + 1) * 9 + k - (rbkC y).length = i * 9 + k by simp [rbkC]; omega]
      exact ih i x (by simpa using h) k hk

/-- A row of blocks that is owned. -/
theorem own_bks {w : World} {base : Nat} {l : List Bk} {bv : Value} (h : w.ownsRow base 83 9 bv l.length (rbC l)) (hne : l ≠ []) :
    ∃ g c, bv = .slice (some ⟨g, 0, none⟩) l.length c ∧ l.length ≤ c ∧ base ≤ g ∧ BksAt w ⟨g, 0, none⟩ l ∧ g < w.heap.size := by
  rcases h.2 with ⟨hv, hn⟩ | ⟨g, cap, cur, hv, hg, hh, hle, hm, hs, ht⟩
  · exact absurd (List.eq_nil_of_length_eq_zero hn) hne
  · have hc := h.cells (g := g) (by rw [hv]; rfl)
    refine ⟨g, cap, hv, hle, hg, fun i x hx => ?_, blk_lt hh⟩
    have hk : ∀ k, k < 9 → w.cell? ⟨g, i * 9 + k, none⟩ = (rbkC x)[k]? := fun k hk => by
      have e := rbC_get l i x hx k hk
      obtain ⟨u, hu⟩ : ∃ u, (rbkC x)[k]? = some u := ⟨_, List.getElem?_eq_getElem (by simp [rbkC]; omega)⟩
      have := hc (i * 9 + k) u (e.trans hu)
      rw [add_plain] at this
      rw [hu]
      simpa using this
    rw [add_plain]
    refine ⟨?_, ?_, ?_, ?_, ?_, ?_, ?_, ?_, ?_⟩
    · have := hk 0 (by decide); simpa [rbkC] using this
    · have := hk 1 (by decide); simpa [rbkC] using this
    · have := hk 2 (by decide); simpa [rbkC] using this
    · have := hk 3 (by decide); simpa [rbkC] using this
    · have := hk 4 (by decide); simpa [rbkC] using this
    · have := hk 5 (by decide); simpa [rbkC] using this
    · have := hk 6 (by decide); simpa [rbkC] using this
    · have := hk 7 (by decide); simpa [rbkC] using this
    · have := hk 8 (by decide); simpa [rbkC] using this

theorem info83 : (Tryd.prog.info? 83).map (fun i => (i.zero, i.size, i.bytes)) = some (some (.agg #[.int .i64 0, .int .i64 0, .bool false, .bool false, .string ⟨#[]⟩, .bool false, .int .i64 0, .bool false, .int .i64 0]), 9, 72) := by kernel_rfl

theorem PgAt.grown {w : World} {W : Int} {sl : Value} {s : St} {w1 w2 : World} {bv : Value} {n : Nat} {xs : List Value} (h : PgAt w W sl s w1) (ho : w1.ownsRow w.heap.size 83 9 bv n xs) (hg : w1.grownBy w2 bv.ownBlock) : PgAt w W sl s w2 :=
  ⟨h.below.grown hg h.below.size (fun k hk => (ho.lt k hk).1), blk_grown h.pg hg (own_ne ho h.pg (by decide)), blk_grown h.res hg (own_ne ho h.res (by decide))⟩
theorem PgAt.set4 {w : World} {W : Int} {sl sl' : Value} {s s' : St} {w1 : World} (h : PgAt w W sl s w1) (e1 : s'.out = s.out) (e2 : s'.at_ = s.at_) (e3 : s'.lines = s.lines) : PgAt w W sl' s' (w1.setCell ⟨w.heap.size, 4, none⟩ sl') :=
  ⟨h.below.setCell (p := ⟨w.heap.size, 4, none⟩) (Nat.le_refl _) _, by rw [blk_set h.pg 4]; unfold pgC; rw [e1, e2, e3]; rfl, blk_far h.res (p := ⟨w.heap.size, 4, none⟩) (by show w.heap.size + 1 ≠ w.heap.size; omega) _⟩
theorem PgAt.far {w : World} {W : Int} {sl : Value} {s : St} {w1 : World} (h : PgAt w W sl s w1) (b i : Nat) (v : Value) (hb : w.heap.size + 1 < b) : PgAt w W sl s (w1.setCell ⟨b, i, none⟩ v) :=
  ⟨h.below.setCell (p := ⟨b, i, none⟩) (by show w.heap.size ≤ b; omega) _, blk_far h.pg (p := ⟨b, i, none⟩) (by show w.heap.size ≠ b; omega) _, blk_far h.res (p := ⟨b, i, none⟩) (by show w.heap.size + 1 ≠ b; omega) _⟩

theorem own_setRow {w : World} {base : Nat} {e : TypeId} {size n : Nat} {v : Value} {xs : List Value} (h : w.ownsRow base e size v n xs) {k : Nat} (hne : some k ≠ v.ownBlock) (cs : Array Value) : (w.setRow k cs).ownsRow base e size v n xs := by
  obtain ⟨h1, h2⟩ := h
  refine ⟨h1, ?_⟩
  rcases h2 with h2 | ⟨g, cap, cur, hv, hg, hh, r⟩
  · exact .inl h2
  · refine .inr ⟨g, cap, cur, hv, hg, ?_, r⟩
    rw [setRow_other]
    · exact hh
    · rintro rfl
      exact hne (by rw [hv]; rfl)

theorem rbC_one (l : List Bk) : ∀ u ∈ rbC l, u.oneCell' = true := by
  intro u hu
  unfold rbC at hu
  obtain ⟨b, _, hb⟩ := List.mem_flatMap.1 hu
  unfold rbkC at hb
  simp only [List.mem_cons, List.not_mem_nil, or_false] at hb
  rcases hb with rfl | rfl | rfl | rfl | rfl | rfl | rfl | rfl | rfl <;> rfl

/-- What begun answers. -/
def BegunSays (s1 : St) (W : Int) (w : World) (e : Ending) (w' : World) : Prop :=
  ∃ bv, e = .returned (pageV s1 W bv) ∧ w'.ownsRow w.heap.size 83 9 bv s1.blocks.length (rbC s1.blocks) ∧ Below w.heap.size w w'

set_option linter.unusedSimpArgs false in
set_option maxRecDepth 100000 in
set_option maxHeartbeats 1600000 in
theorem rbegun_any (A : Option Addr) (l : List Op) (lcap : Nat) (s : St) (ad : Addr) (cap : Nat) (W M : Int) (i : Nat) (x : Op) (w : World) (h : PageAsks w A l lcap s ad cap W) (hx : l[i]? = some x)
    (hcells : ∀ j u, (rbC s.blocks)[j]? = some u → w.cell? (ad.add j) = some u) :
    Calls Tryd.prog 61 #[pageV s W (.slice (some ad) s.blocks.length cap), .slice A l.length lcap, .int .i64 i, .int .i64 M] w (BegunSays (rbegunP W M s x (l.drop (i + 1))) W w) := by
  obtain ⟨t83, ti0, ti1, ti2, ti3⟩ := info_parts info83
  have T0 := Lib.hid ti0
  have T1 := Lib.hid ti1
  have T2 := Lib.hid ti2
  have T3 := Lib.hid ti3
  have hi := (List.getElem?_eq_some_iff.1 hx).1
  have hl4 := h.len
  obtain ⟨hval, hts⟩ := h.ok x (List.mem_of_getElem? hx)
  have htop := top_at h.br.ne
  obtain ⟨_, _, _, _, _, _, _, b7, _⟩ := h.bks _ _ htop
  obtain ⟨aop, rfl, ho, hlo⟩ := h.ops (by rintro rfl; simp at hi)
  obtain ⟨a0, a1, a2, a3, a4⟩ := ho i x hx
  have hne := List.length_pos_iff.2 h.br.ne
  have hcap := h.cap
  have hlc := h.lcap
  have hfew := h.br.few
  have hW0 := h.w0
  have hadl := h.lt
  have hW1 := h.w1
  have e1 : ((s.blocks.length : Nat) : Int) - 1 = ((s.blocks.length - 1 : Nat) : Int) := by omega
  have hlt : s.blocks.length - 1 < s.blocks.length := by omega
  have e2 : IntKind.i64.wrap ((i : Int) + 1) = ((i + 1 : Nat) : Int) := IntWalk.i64_in _ (by omega)
  -- put
  have h60 := fun W1 => rput_any s x.text W (some ad) s.blocks.length cap W1 hval.utf (by omega) (by have := h.br.len; omega) h.br.a0 (by have := h.br.a1; omega) h.br.ln0 (by have := h.br.ln1; omega)
  have hsm1 : SmSt (putRaw s x.text) 1020000 := SmSt.put (N := 1000000) ⟨h.br.a0, h.br.a1, h.br.ln0, h.br.ln1, h.br.len⟩ hts (by decide)
  obtain ⟨S', hS'⟩ : ∃ S', rbegunP W M s x (l.drop (i + 1)) = S' := ⟨_, rfl⟩
  rw [hS']
  unfold rbegunP at hS'
  generalize hS1 : putRaw s x.text = S1 at *
  have hfit := fun w' (hb : Below w.heap.size w w') => rfits_any (some aop) l lcap (i + 1) S1.at_ W 0 w' (h.ops.below hb) h.ok h.len h.lcap (by omega) hsm1.a0 (by have := hsm1.a1; omega) h.w1 (by decide) (by decide)
  generalize rfitsP W (l.drop (i + 1)) 0 0 S1.at_ = f at *
  generalize htt : topOf s = b at *
  obtain ⟨bst, bin, bfr, bpre, blo, bmi, bea, bli, bsl⟩ := b
  obtain ⟨xk, xt, xn, xm, xf⟩ := x
  simp only at b7 a0 a1 a2 a3 a4 hS' h60 hts
  unfold pageV at h60
  have ew : IntKind.i64.wrap (W - S1.at_) = W - S1.at_ := IntWalk.i64_in _ (by have := hsm1.a0; have := hsm1.a1; omega)
  have z7 := fun o o' o'' => al1 (al2 b7 o o') o''
  have y0 := al2 a0
  have y1 := al2 a1
  have y2 := al2 a2
  have y3 := al2 a3
  have y4 := al2 a4
  have HS' := Lib.hid hS'
  have H60 := Lib.hid h60
  have HF := Lib.hid hfit
  have HC := Lib.hid hcells
  have HSB := Lib.hid (show S1.blocks = s.blocks from by rw [← hS1]; rfl)
  clear h60 hfit hS' hS1 hsm1 hcells b7 a0 a1 a2 a3 a4 h hx hval ho htop htt ti0 ti1 ti2 ti3 hts
  unfold pageV
  go_enter Tryd.func61, Tryd.ntmps61
  go_wp2_with fail
  obtain ⟨V, hV⟩ : ∃ V, ((w.alloc (.cells #[.string ⟨s.out.toArray⟩, .int .i64 s.at_, .int .i64 s.lines, .int .i64 W, .slice (some ad) s.blocks.length cap] 86)).alloc (.cells #[.string ⟨#[]⟩, .int .i64 0, .int .i64 0, .int .i64 0, .slice none 0 0] 86)).alloc (.cells #[.int .i64 xk, .string xt, .int .i64 xn, .int .i64 xm, .bool xf] 77) = V := ⟨_, rfl⟩
  rw [hV]
  have hp0 : PgAt w W (.slice (some ad) s.blocks.length cap) s V := by
    rw [← hV]
    refine ⟨((new1 w _).alloc (by simp) _).alloc (by simp; omega) _, ?_, ?_⟩
    · rw [Below.heap_alloc _ _ _ (by simp; omega), Below.heap_alloc _ _ _ (by simp)]; exact heap_alloc_new w _
    · rw [Below.heap_alloc _ _ _ (by simp)]; exact heap_alloc2 w _ _
  have ho0 : V.heap[w.heap.size + 1 + 1]? = some (.cells #[.int .i64 xk, .string xt, .int .i64 xn, .int .i64 xm, .bool xf] 77 (0, 0)) := by
    rw [← hV]
    have := heap_alloc_new ((w.alloc (.cells #[.string ⟨s.out.toArray⟩, .int .i64 s.at_, .int .i64 s.lines, .int .i64 W, .slice (some ad) s.blocks.length cap] 86)).alloc (.cells #[.string ⟨#[]⟩, .int .i64 0, .int .i64 0, .int .i64 0, .slice none 0 0] 86)) (.cells #[.int .i64 xk, .string xt, .int .i64 xn, .int .i64 xm, .bool xf] 77)
    simpa using this
  have HP0 := Lib.hid hp0
  have HO0 := Lib.hid ho0
  clear hV hp0 ho0 z7 y0 y1 y2 y3 y4
  refine (H60.out V).mono ?_
  rintro e w1 ⟨rfl, hb1⟩
  have HP1 := Lib.hid (HP0.out.bel hb1)
  have HO1 := Lib.hid (blk_below HO0.out hb1)
  have HP2 : Hid (PgAt w W (.slice (some ad) s.blocks.length cap) S1 (w1.setRow w.heap.size (pgC S1 W (.slice (some ad) s.blocks.length cap)))) := HP1.out.row
  have HO2 : Hid ((w1.setRow w.heap.size (pgC S1 W (.slice (some ad) s.blocks.length cap))).heap[w.heap.size + 1 + 1]? = some (.cells #[.int .i64 xk, .string xt, .int .i64 xn, .int .i64 xm, .bool xf] 77 (0, 0))) := (setRow_other _ _ _ _ (by omega)).trans HO1.out
  have u1 : (w1.setRow w.heap.size (pgC S1 W (.slice (some ad) s.blocks.length cap))).cell? ⟨w.heap.size + 1 + 1, 1, none⟩ = some (.string xt) := blk_cell HO2.out 1
  have u4 : (w1.setRow w.heap.size (pgC S1 W (.slice (some ad) s.blocks.length cap))).cell? ⟨w.heap.size + 1 + 1, 4, none⟩ = some (.bool xf) := blk_cell HO2.out 4
  obtain ⟨k0, k1, k2, k3, k4⟩ := pg_cell HP2.out.pg
  have j1 := al1 k1
  have j3 := al1 k3
  clear hb1 H60 HP0 HO0
  go_wp2_with (refine wpList_store_row rfl 86 _ _ rfl w.heap.size (pgC S1 W (.slice (some ad) s.blocks.length cap)) rfl rfl 86 _ HP1.out.pg size86 rfl pgC_one ?_)
  clear k0 k1 k2 k3 k4 j1 j3 u1 u4
  have hg2 : w.heap.size + 1 + 1 < w1.heap.size := blk_lt HO1.out
  obtain ⟨V2, hV2⟩ : ∃ V2, (w1.setRow w.heap.size (pgC S1 W (.slice (some ad) s.blocks.length cap))).alloc (.cells #[.int .i64 S1.at_, .int .i64 S1.at_, .bool bsl, .bool (decide (W - S1.at_ ≤ M)), .string xt, .bool xf, .int .i64 s.at_, .bool false, .int .i64 S1.lines] 83) = V2 := ⟨_, rfl⟩
  rw [hV2]
  have HP3 : Hid (PgAt w W (.slice (some ad) s.blocks.length cap) S1 V2) := Lib.hid (by rw [← hV2]; exact HP2.out.bel (new1 _ _))
  have HT3 : Hid (V2.heap[w1.heap.size]? = some (.cells #[.int .i64 S1.at_, .int .i64 S1.at_, .bool bsl, .bool (decide (W - S1.at_ ≤ M)), .string xt, .bool xf, .int .i64 s.at_, .bool false, .int .i64 S1.lines] 83 (0, 0))) := Lib.hid (by
    rw [← hV2]
    have := heap_alloc_new (w1.setRow w.heap.size (pgC S1 W (.slice (some ad) s.blocks.length cap))) (.cells #[.int .i64 S1.at_, .int .i64 S1.at_, .bool bsl, .bool (decide (W - S1.at_ ≤ M)), .string xt, .bool xf, .int .i64 s.at_, .bool false, .int .i64 S1.lines] 83)
    rwa [size_setRow] at this)
  clear hV2 HP1 HP2 HO1 HO2
  refine (HF.out V2 HP3.out.below).mono ?_
  rintro e w6 ⟨rfl, hb6⟩
  have HP6 := Lib.hid (HP3.out.bel hb6)
  have HT6 := Lib.hid (blk_below HT3.out hb6)
  have t7 : w6.cell? ⟨w1.heap.size, 7, none⟩ = some (.bool false) := blk_cell HT6.out 7
  have tf := blk_frozen HT6.out
  have HP7 := Lib.hid (HP6.out.far w1.heap.size 7 (.bool f) (by omega))
  have HT7 : Hid ((w6.setCell ⟨w1.heap.size, 7, none⟩ (.bool f)).heap[w1.heap.size]? = some (.cells #[.int .i64 S1.at_, .int .i64 S1.at_, .bool bsl, .bool (decide (W - S1.at_ ≤ M)), .string xt, .bool xf, .int .i64 s.at_, .bool f, .int .i64 S1.lines] 83 (0, 0))) := Lib.hid (by rw [blk_set HT6.out 7]; rfl)
  have hsl : ∀ o, ((w6.setCell ⟨w1.heap.size, 7, none⟩ (.bool f)).alloc o).cell? ⟨w.heap.size, 4, none⟩ = some (.slice (some ad) s.blocks.length cap) := al1 (pg_cell HP7.out.pg).2.2.2.2
  have HMADE : Hid (((w6.setCell ⟨w1.heap.size, 7, none⟩ (.bool f)).alloc (.cells #[] 83)).ownsRow w.heap.size 83 9 (.slice (some ⟨w6.heap.size, 0, none⟩) 0 0) 0 []) := Lib.hid (by
    have hsz := HP7.out.below.size
    have := World.ownsRow_made (base := w.heap.size) (e := 83) (size := 9) (w6.setCell ⟨w1.heap.size, 7, none⟩ (.bool f)) #[] 0 hsz (by decide) rfl
    simpa using this)
  clear HP3 HT3 hb6 HF
  go_wp2_with (at_builtin; refine wpList_append_own _ rfl _ _ 84 rfl w.heap.size 83 t83 _ 9 72 Tryd.underlying84 T0.out T1.out T2.out T3.out rfl (by decide) _ _ _ rfl HMADE.out ad s.blocks.length cap (rbC s.blocks) rfl (rbC_len _) ?c1 ?c2 ?c3 ?c4 ?c5 ?_)
  case c1 =>
    intro j u hj
    have h1 := HC.out j u hj
    have hlt : (ad.add j).block < w.heap.size := by rw [block_of_add]; exact hadl
    exact ((HP7.out.bel (new1 _ _)).below.cell hlt).trans h1
  case c2 => exact rbC_one _
  case c3 => unfold maxLen; omega
  case c4 => omega
  case c5 => exact (HP7.out.bel (new1 _ _)).below.size
  intro v5 w5 hown5 hgrow5 _
  obtain ⟨A5, c5, rfl⟩ := own_slice hown5
  have HP8 : Hid (PgAt w W (.slice (some ad) s.blocks.length cap) S1 w5) := Lib.hid ((HP7.out.bel (new1 _ _)).grown HMADE.out hgrow5)
  have HT8 : Hid (w5.heap[w1.heap.size]? = some (.cells #[.int .i64 S1.at_, .int .i64 S1.at_, .bool bsl, .bool (decide (W - S1.at_ ≤ M)), .string xt, .bool xf, .int .i64 s.at_, .bool f, .int .i64 S1.lines] 83 (0, 0))) := Lib.hid (by
    have hne : some w1.heap.size ≠ (Value.slice (some ⟨w6.heap.size, 0, none⟩) 0 0).ownBlock := by
      have := blk_lt HT6.out
      simp [Value.ownBlock]; omega
    exact blk_grown (blk_below HT7.out (new1 _ _)) hgrow5 hne)
  have HOW := Lib.hid hown5
  have t0 : w5.cell? ⟨w1.heap.size, 0, none⟩ = some (.int .i64 S1.at_) := blk_cell HT8.out 0
  have t1 : w5.cell? ⟨w1.heap.size, 1, none⟩ = some (.int .i64 S1.at_) := blk_cell HT8.out 1
  have t2 : w5.cell? ⟨w1.heap.size, 2, none⟩ = some (.bool bsl) := blk_cell HT8.out 2
  have t3 : w5.cell? ⟨w1.heap.size, 3, none⟩ = some (.bool (decide (W - S1.at_ ≤ M))) := blk_cell HT8.out 3
  have t4 : w5.cell? ⟨w1.heap.size, 4, none⟩ = some (.string xt) := blk_cell HT8.out 4
  have t5 : w5.cell? ⟨w1.heap.size, 5, none⟩ = some (.bool xf) := blk_cell HT8.out 5
  have t6 : w5.cell? ⟨w1.heap.size, 6, none⟩ = some (.int .i64 s.at_) := blk_cell HT8.out 6
  have t7' : w5.cell? ⟨w1.heap.size, 7, none⟩ = some (.bool f) := blk_cell HT8.out 7
  have t8 : w5.cell? ⟨w1.heap.size, 8, none⟩ = some (.int .i64 S1.lines) := blk_cell HT8.out 8
  clear hown5 hgrow5 t7 tf hsl HP6 HP7 HT6 HT7 HMADE
  go_wp2_with (at_builtin; refine wpList_append_own _ rfl _ _ 84 rfl w.heap.size 83 t83 _ 9 72 Tryd.underlying84 T0.out T1.out T2.out T3.out rfl (by decide) _ _ _ rfl (HOW.out.alloc _) _ 1 1 (rbC [{ start := S1.at_, indent := S1.at_, front := s.at_, pre := xt, long := bsl, miser := decide (W - S1.at_ ≤ M), each := xf, lines := S1.lines, slong := !f }]) rfl rfl ?d1 ?d2 ?d3 ?d4 ?d5 ?_)
  case d1 =>
    intro jj u h
    rw [add_plain]
    try rw [Nat.zero_add]
    exact (blk_cell (heap_alloc_new w5 _) jj).trans (by simpa [rbC, rbkC] using h)
  case d2 => exact rbC_one _
  case d3 => unfold maxLen; omega
  case d4 => omega
  case d5 => exact (HP8.out.bel (new1 _ _)).below.size
  intro v8 w8 hown8 hgrow8 _
  obtain ⟨A8, c8, rfl⟩ := own_slice hown8
  have HP9 := Lib.hid ((HP8.out.bel (new1 _ _)).grown (HOW.out.alloc _) hgrow8)
  have hS := HS'.out
  have HP10 : Hid (PgAt w W (.slice A8 (s.blocks.length + 1) c8) S' (w8.setCell ⟨w.heap.size, 4, none⟩ (.slice A8 (s.blocks.length + 1) c8))) := Lib.hid (HP9.out.set4 (by rw [← hS]) (by rw [← hS]) (by rw [← hS]))
  have hlen' : S'.blocks.length = s.blocks.length + 1 := by rw [← hS]; simp
  have hcs : rbC S'.blocks = rbC s.blocks ++ rbC [{ start := S1.at_, indent := S1.at_, front := s.at_, pre := xt, long := bsl, miser := decide (W - S1.at_ ≤ M), each := xf, lines := S1.lines, slong := !f }] := by rw [← hS, ← rbC_append]
  have hn0 := own_ne hown8 HP9.out.pg (by decide)
  have hn1 := own_ne hown8 HP9.out.res (by decide)
  rw [← hcs] at hown8
  have HO8 := Lib.hid (own_setRow (own_set hown8 (p := ⟨w.heap.size, 4, none⟩) hn0 (.slice A8 (s.blocks.length + 1) c8)) hn1 (pgC S' W (.slice A8 (s.blocks.length + 1) c8)))
  obtain ⟨_, _, _, _, q4⟩ := pg_cell HP9.out.pg
  have qf := blk_frozen HP9.out.pg
  obtain ⟨k0, k1, k2, k3, k4⟩ := pg_cell HP10.out.pg
  have HL := Lib.hid hlen'
  clear hown8 hgrow8 hS hcs hn0 hn1 hlen' t0 t1 t2 t3 t4 t5 t6 t7' t8 HS' HOW HP8 HT8
  go_wp2_with (refine wpList_store_row rfl 86 _ _ rfl (w.heap.size + 1) (pgC S' W (.slice A8 (s.blocks.length + 1) c8)) rfl rfl 86 _ HP10.out.res size86 rfl pgC_one ?_)
  refine ret86 rfl (w.heap.size + 1) (pgC S' W (.slice A8 (s.blocks.length + 1) c8)) rfl (setRow_heap _ _ _ _ _ _ HP10.out.res) rfl rfl ⟨_, rfl, ?_, below_setRow HP10.out.below (Nat.le_succ _) _⟩
  rw [HL.out]
  exact HO8.out
end Go.Proofs.YtljgpcaljedhpaaDoor
