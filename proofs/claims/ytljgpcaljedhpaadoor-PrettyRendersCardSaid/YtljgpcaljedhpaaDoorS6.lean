/- The reference's step, walked: texts, tabs, an open and a close. -/
import Derived.Test.YtljgpcaljedhpaaDoorS5
namespace Go.Proofs.YtljgpcaljedhpaaDoor
open Go.RowKit

/-- What step asks. -/
structure StepAsks (w0 : World) (A : Option Addr) (l : List Op) (lcap : Nat) (s : St) (bv : Value) (W : Int) (w : World) : Prop where
  ops : OpsIn w0 A l
  ok : ∀ x ∈ l, Valid x ∧ x.text.size ≤ 20000
  len : l.length ≤ 4000
  lcap : l.length ≤ lcap
  br : BrokenAsks s
  own : w.ownsRow w0.heap.size 83 9 bv s.blocks.length (rbC s.blocks)
  below : Below w0.heap.size w0 w
  lo : -1000000 ≤ W
  hi : W ≤ 1000000
/-- What step answers. -/
def StepSays (w0 w : World) (bv0 : Value) (S : St) (W : Int) (e : Ending) (w' : World) : Prop :=
  ∃ bv, e = .returned (pageV S W bv) ∧ w'.ownsRow w0.heap.size 83 9 bv S.blocks.length (rbC S.blocks) ∧ Below w0.heap.size w0 w' ∧ w.grownBy w' bv0.ownBlock
theorem below_grown {w w' : World} (h : Below w.heap.size w w') (row : Option Nat) : w.grownBy w' row := ⟨h.os, h.tape, h.output, h.size, fun k hk _ => h.block k hk⟩

theorem StepAsks.page {w0 : World} {A : Option Addr} {l : List Op} {lcap : Nat} {s : St} {bv : Value} {W : Int} {w : World} (h : StepAsks w0 A l lcap s bv W w) :
    ∃ rb c, bv = .slice (some ⟨rb, 0, none⟩) s.blocks.length c ∧ PageAsks w A l lcap s ⟨rb, 0, none⟩ c W ∧ (∀ j u, (rbC s.blocks)[j]? = some u → w.cell? ((⟨rb, 0, none⟩ : Addr).add j) = some u) := by
  obtain ⟨g, c, hv, hle, _, hb, hlt⟩ := own_bks h.own h.br.ne
  exact ⟨g, c, hv, ⟨h.ops.below h.below, h.ok, h.len, h.lcap, h.br, hb, hlt, hle, h.lo, h.hi⟩, h.own.cells (by rw [hv]; rfl)⟩

section
variable {w0 w : World} {A : Option Addr} {l : List Op} {lcap : Nat} {s : St} {bv : Value} {W M : Int} {i : Nat} {x : Op}

set_option maxRecDepth 100000 in
set_option maxHeartbeats 1600000 in
theorem rstep_text (h : StepAsks w0 A l lcap s bv W w) (hx : l[i]? = some x) (hk : x.kind = 0) :
    Calls Tryd.prog 43 #[pageV s W bv, .slice A l.length lcap, .int .i64 i, .int .i64 M] w (StepSays w0 w bv (putRaw s x.text) W) := by
  obtain ⟨rb, c, rfl, hp, _⟩ := h.page
  have hi := (List.getElem?_eq_some_iff.1 hx).1
  have hl4 := h.len
  have hlc := h.lcap
  have hfew := h.br.few
  obtain ⟨hval, hts⟩ := h.ok x (List.mem_of_getElem? hx)
  obtain ⟨aop, rfl, ho, hlo⟩ := hp.ops (by rintro rfl; simp at hi)
  obtain ⟨a0, a1, a2, a3, a4⟩ := ho i x hx
  have h60 := fun W1 => rput_any s x.text W (some ⟨rb, 0, none⟩) s.blocks.length c W1 hval.utf (by omega) (by have := h.br.len; omega) h.br.a0 (by have := h.br.a1; omega) h.br.ln0 (by have := h.br.ln1; omega)
  have hsb : (putRaw s x.text).blocks = s.blocks := rfl
  generalize putRaw s x.text = S1 at *
  obtain ⟨xk, xt, xn, xm, xf⟩ := x
  simp only at a0 a1 a2 a3 a4 h60 hts hk
  subst hk
  unfold pageV at h60
  have H60 := Lib.hid h60
  have HH := Lib.hid h
  have HSB := Lib.hid hsb
  have y0 := al2 a0
  have y1 := al2 a1
  have y2 := al2 a2
  have y3 := al2 a3
  have y4 := al2 a4
  obtain ⟨hp0, _⟩ := three_at w s W (.slice (some ⟨rb, 0, none⟩) s.blocks.length c) #[.int .i64 0, .string xt, .int .i64 xn, .int .i64 xm, .bool xf]
  have HP0 := Lib.hid hp0
  clear h60 h hx hval ho hp a0 a1 a2 a3 a4 hsb hp0
  unfold pageV
  go_enter Tryd.func43, Tryd.ntmps43
  go_wp2_with fail
  refine (H60.out _).mono ?_
  rintro e w1 ⟨rfl, hb1⟩
  have HP1 := Lib.hid (HP0.out.bel hb1)
  have HO1 := Lib.hid (own_below HH.out.own HP1.out.below)
  clear hb1 H60 HP0 y0 y1 y2 y3 y4
  go_wp2_with (refine wpList_store_row rfl 86 _ _ rfl (w.heap.size + 1) (pgC S1 W (.slice (some ⟨rb, 0, none⟩) s.blocks.length c)) rfl rfl 86 _ HP1.out.res size86 rfl pgC_one ?_)
  refine ret86 rfl (w.heap.size + 1) (pgC S1 W (.slice (some ⟨rb, 0, none⟩) s.blocks.length c)) rfl (setRow_heap _ _ _ _ _ _ HP1.out.res) rfl rfl ⟨_, rfl, ?_, ?_, ?_⟩
  · rw [HSB.out]
    exact own_setRow HO1.out (own_ne HO1.out HP1.out.res (by decide)) _
  · have hb := HH.out.below.trans (HP1.out.below.mono HH.out.below.size)
    exact below_setRow hb (Nat.le_trans HH.out.below.size (Nat.le_succ _)) _
  · exact below_grown (below_setRow HP1.out.below (Nat.le_succ _) _) _

set_option maxRecDepth 100000 in
set_option maxHeartbeats 1600000 in
theorem rstep_open (h : StepAsks w0 A l lcap s bv W w) (hx : l[i]? = some x) (hk : x.kind = 2) :
    Calls Tryd.prog 43 #[pageV s W bv, .slice A l.length lcap, .int .i64 i, .int .i64 M] w (StepSays w0 w bv (rbegunP W M s x (l.drop (i + 1))) W) := by
  obtain ⟨rb, c, rfl, hp, hcl⟩ := h.page
  have hi := (List.getElem?_eq_some_iff.1 hx).1
  have hl4 := h.len
  have hlc := h.lcap
  have hfew := h.br.few
  obtain ⟨hval, hts⟩ := h.ok x (List.mem_of_getElem? hx)
  obtain ⟨aop, rfl, ho, hlo⟩ := hp.ops (by rintro rfl; simp at hi)
  obtain ⟨a0, a1, a2, a3, a4⟩ := ho i x hx
  have hbg := fun w1 (hb : Below w.heap.size w w1) => rbegun_any (some aop) l lcap s ⟨rb, 0, none⟩ c W M i x w1 (hp.bel hb) hx (fun j u hj => (hb.cell (by rw [block_of_add]; exact hp.lt)).trans (hcl j u hj))
  generalize rbegunP W M s x (l.drop (i + 1)) = S' at *
  obtain ⟨xk, xt, xn, xm, xf⟩ := x
  simp only at a0 a1 a2 a3 a4 hts hk
  subst hk
  unfold pageV at hbg
  have HBG := Lib.hid hbg
  have HH := Lib.hid h
  have y0 := al2 a0
  have y1 := al2 a1
  have y2 := al2 a2
  have y3 := al2 a3
  have y4 := al2 a4
  obtain ⟨hp0, _⟩ := three_at w s W (.slice (some ⟨rb, 0, none⟩) s.blocks.length c) #[.int .i64 2, .string xt, .int .i64 xn, .int .i64 xm, .bool xf]
  have HP0 := Lib.hid hp0
  clear hbg h hx hval ho hp a0 a1 a2 a3 a4 hp0 hcl
  unfold pageV
  go_enter Tryd.func43, Tryd.ntmps43
  go_wp2_with fail
  refine (HBG.out _ HP0.out.below).mono ?_
  rintro e w1 ⟨bv1, rfl, hown1, hb1⟩
  have HP1 := Lib.hid (HP0.out.bel hb1)
  have hsz := HP0.out.below.size
  obtain ⟨A1, c1, rfl⟩ := own_slice hown1
  have HO1 : Hid (w1.ownsRow w0.heap.size 83 9 (.slice A1 S'.blocks.length c1) S'.blocks.length (rbC S'.blocks)) := Lib.hid ⟨hown1.1, by
    rcases hown1.2 with h | ⟨g, cap, cur, hv, hg, r⟩
    · exact .inl h
    · exact .inr ⟨g, cap, cur, hv, Nat.le_trans HH.out.below.size (Nat.le_trans hsz hg), r⟩⟩
  clear hb1 HBG HP0 y0 y1 y2 y3 y4 hown1
  unfold pageV
  go_wp2_with (refine wpList_store_row rfl 86 _ _ rfl (w.heap.size + 1) (pgC S' W (.slice A1 S'.blocks.length c1)) rfl rfl 86 _ HP1.out.res size86 rfl pgC_one ?_)
  refine ret86 rfl (w.heap.size + 1) (pgC S' W (.slice A1 S'.blocks.length c1)) rfl (setRow_heap _ _ _ _ _ _ HP1.out.res) rfl rfl ⟨_, rfl, ?_, ?_, ?_⟩
  · exact own_setRow HO1.out (own_ne HO1.out HP1.out.res (by decide)) _
  · have hb := HH.out.below.trans (HP1.out.below.mono HH.out.below.size)
    exact below_setRow hb (Nat.le_trans HH.out.below.size (Nat.le_succ _)) _
  · exact below_grown (below_setRow HP1.out.below (Nat.le_succ _) _) _

set_option maxRecDepth 100000 in
set_option maxHeartbeats 1600000 in
theorem rstep_close (h : StepAsks w0 A l lcap s bv W w) (hx : l[i]? = some x) (hk : x.kind = 3) :
    Calls Tryd.prog 43 #[pageV s W bv, .slice A l.length lcap, .int .i64 i, .int .i64 M] w (StepSays w0 w bv { putRaw s x.text with blocks := s.blocks.dropLast } W) := by
  obtain ⟨rb, c, rfl, hp, _⟩ := h.page
  have hi := (List.getElem?_eq_some_iff.1 hx).1
  have hl4 := h.len
  have hlc := h.lcap
  have hfew := h.br.few
  obtain ⟨hval, hts⟩ := h.ok x (List.mem_of_getElem? hx)
  obtain ⟨aop, rfl, ho, hlo⟩ := hp.ops (by rintro rfl; simp at hi)
  obtain ⟨a0, a1, a2, a3, a4⟩ := ho i x hx
  have h60 := fun W1 => rput_any s x.text W (some ⟨rb, 0, none⟩) s.blocks.length c W1 hval.utf (by omega) (by have := h.br.len; omega) h.br.a0 (by have := h.br.a1; omega) h.br.ln0 (by have := h.br.ln1; omega)
  have hne := List.length_pos_iff.2 h.br.ne
  have hcl := hp.cap
  have e1 : ((s.blocks.length : Nat) : Int) - 1 = ((s.blocks.length - 1 : Nat) : Int) := by omega
  have hown' : ∀ w1, Below w.heap.size w w1 → w1.ownsRow w0.heap.size 83 9 (.slice (some ⟨rb, 0, none⟩) (s.blocks.length - 1) c) s.blocks.dropLast.length (rbC s.blocks.dropLast) := fun w1 hb => by
    have ho := own_below h.own hb
    refine ⟨by rw [rbC_len], ?_⟩
    rcases ho.2 with ⟨hv, _⟩ | ⟨g, cap, cur, hv, hg, hh, hle, hm, hs, ht⟩
    · cases hv
    · injection hv with e1 e2 e3
      subst e3
      refine .inr ⟨g, c, cur, by rw [e1, List.length_dropLast], hg, hh, by rw [List.length_dropLast]; omega, hm, hs, ?_⟩
      rw [rbC_dropLast (q := s.blocks.length - 1) (by omega), ← ht, List.take_take, List.length_dropLast]
      congr 1
      omega
  generalize hS1 : putRaw s x.text = S1 at *
  obtain ⟨xk, xt, xn, xm, xf⟩ := x
  simp only at a0 a1 a2 a3 a4 h60 hts hk hS1
  subst hk
  unfold pageV at h60
  have H60 := Lib.hid h60
  have HH := Lib.hid h
  have HOW := Lib.hid hown'
  have y0 := al2 a0
  have y1 := al2 a1
  have y2 := al2 a2
  have y3 := al2 a3
  have y4 := al2 a4
  obtain ⟨hp0, _⟩ := three_at w s W (.slice (some ⟨rb, 0, none⟩) s.blocks.length c) #[.int .i64 3, .string xt, .int .i64 xn, .int .i64 xm, .bool xf]
  have HP0 := Lib.hid hp0
  clear h60 h hx hval ho hp a0 a1 a2 a3 a4 hp0 hown' hS1
  unfold pageV
  go_enter Tryd.func43, Tryd.ntmps43
  go_wp2_with fail
  refine (H60.out _).mono ?_
  rintro e w1 ⟨rfl, hb1⟩
  have HP1 := Lib.hid (HP0.out.bel hb1)
  have HP2 : Hid (PgAt w W (.slice (some ⟨rb, 0, none⟩) s.blocks.length c) S1 (w1.setRow w.heap.size (pgC S1 W (.slice (some ⟨rb, 0, none⟩) s.blocks.length c)))) := HP1.out.row
  have HP3 := Lib.hid (HP2.out.set4 (sl' := .slice (some ⟨rb, 0, none⟩) (s.blocks.length - 1) c) (s' := { S1 with blocks := s.blocks.dropLast }) rfl rfl rfl)
  obtain ⟨_, _, _, _, k4⟩ := pg_cell HP2.out.pg
  have kf := blk_frozen HP2.out.pg
  obtain ⟨j0, j1, j2, j3, j4⟩ := pg_cell HP3.out.pg
  clear hb1 H60 HP0 y0 y1 y2 y3 y4
  go_wp2_with (first
    | (refine wpList_store_row rfl 86 _ _ rfl w.heap.size (pgC S1 W (.slice (some ⟨rb, 0, none⟩) s.blocks.length c)) rfl rfl 86 _ HP1.out.pg size86 rfl pgC_one ?_)
    | (refine wpList_store_row rfl 86 _ _ rfl (w.heap.size + 1) (pgC { S1 with blocks := s.blocks.dropLast } W (.slice (some ⟨rb, 0, none⟩) (s.blocks.length - 1) c)) rfl rfl 86 _ HP3.out.res size86 rfl pgC_one ?_))
  refine ret86 rfl (w.heap.size + 1) (pgC { S1 with blocks := s.blocks.dropLast } W (.slice (some ⟨rb, 0, none⟩) (s.blocks.length - 1) c)) rfl (setRow_heap _ _ _ _ _ _ HP3.out.res) rfl rfl ⟨_, rfl, ?_, ?_, ?_⟩
  · have ho := HOW.out w1 HP1.out.below
    have ho2 := own_setRow ho (own_ne ho HP1.out.pg (by decide)) (pgC S1 W (.slice (some ⟨rb, 0, none⟩) s.blocks.length c))
    have ho3 := own_set ho2 (p := ⟨w.heap.size, 4, none⟩) (own_ne ho2 HP2.out.pg (by decide)) (.slice (some ⟨rb, 0, none⟩) (s.blocks.length - 1) c)
    exact own_setRow ho3 (own_ne ho3 HP3.out.res (by decide)) _
  · have hb := HH.out.below.trans (HP3.out.below.mono HH.out.below.size)
    exact below_setRow hb (Nat.le_trans HH.out.below.size (Nat.le_succ _)) _
  · exact below_grown (below_setRow HP3.out.below (Nat.le_succ _) _) _

set_option maxRecDepth 100000 in
set_option maxHeartbeats 1600000 in
theorem rstep_tab (h : StepAsks w0 A l lcap s bv W w) (hx : l[i]? = some x) (hk : x.kind = 5) :
    Calls Tryd.prog 43 #[pageV s W bv, .slice A l.length lcap, .int .i64 i, .int .i64 M] w (StepSays w0 w bv (putRaw s (spB (spacesP x s.at_).toNat)) W) := by
  obtain ⟨rb, c, rfl, hp, _⟩ := h.page
  have hi := (List.getElem?_eq_some_iff.1 hx).1
  have hl4 := h.len
  have hlc := h.lcap
  have hfew := h.br.few
  obtain ⟨hval, hts⟩ := h.ok x (List.mem_of_getElem? hx)
  obtain ⟨aop, rfl, ho, hlo⟩ := hp.ops (by rintro rfl; simp at hi)
  obtain ⟨a0, a1, a2, a3, a4⟩ := ho i x hx
  obtain ⟨n0, n1, m0, m1⟩ := hval.tab hk
  obtain ⟨s0, s1⟩ := spaces_bd x s.at_ h.br.a0 n0 n1 m0 m1
  have h40 := fun w => rtab_any x s.at_ w h.br.a0 (by have := h.br.a1; omega) n0 n1 m0 m1
  generalize spacesP x s.at_ = d at *
  have hsd := spB_size d.toNat
  have h39 := fun W1 => rspaces_any d (by omega) W1
  have h60 := fun W1 => rput_any s (spB d.toNat) W (some ⟨rb, 0, none⟩) s.blocks.length c W1 (valid_spB _) (by omega) (by have := h.br.len; omega) h.br.a0 (by have := h.br.a1; omega) h.br.ln0 (by have := h.br.ln1; omega)
  have hsb : (putRaw s (spB d.toNat)).blocks = s.blocks := rfl
  generalize putRaw s (spB d.toNat) = S1 at *
  obtain ⟨xk, xt, xn, xm, xf⟩ := x
  simp only at a0 a1 a2 a3 a4 h60 h40 hts hk
  subst hk
  unfold pageV at h60
  have H60 := Lib.hid h60
  have H40 := Lib.hid h40
  have H39 := Lib.hid h39
  have HH := Lib.hid h
  have HSB := Lib.hid hsb
  have y0 := al2 a0
  have y1 := al2 a1
  have y2 := al2 a2
  have y3 := al2 a3
  have y4 := al2 a4
  obtain ⟨hp0, ho0⟩ := three_at w s W (.slice (some ⟨rb, 0, none⟩) s.blocks.length c) #[.int .i64 5, .string xt, .int .i64 xn, .int .i64 xm, .bool xf]
  have HP0 := Lib.hid hp0
  have HO0 := Lib.hid ho0
  clear h60 h40 h39 h hx hval ho hp a0 a1 a2 a3 a4 hsb hp0 hsd ho0 n0 n1 m0 m1 s0 s1
  unfold pageV
  go_enter Tryd.func43, Tryd.ntmps43
  go_wp2_with fail
  obtain ⟨V, hV⟩ : ∃ V, ((w.alloc (.cells (pgC s W (.slice (some ⟨rb, 0, none⟩) s.blocks.length c)) 86)).alloc (.cells #[.string ⟨#[]⟩, .int .i64 0, .int .i64 0, .int .i64 0, .slice none 0 0] 86)).alloc (.cells #[.int .i64 5, .string xt, .int .i64 xn, .int .i64 xm, .bool xf] 77) = V := ⟨_, rfl⟩
  rw [hV] at HP0 HO0
  unfold pgC at hV
  rw [hV]
  clear hV y0 y1 y2 y3 y4
  obtain ⟨g0, g1, g2, g3, g4⟩ := pg_cell HP0.out.pg
  have x0 := ext_cell g0
  have x1 := ext_cell g1
  have x2 := ext_cell g2
  have x3 := ext_cell g3
  have x4 := ext_cell g4
  have z0 := ext_cell (show V.cell? ⟨w.heap.size + 1 + 1, 0, none⟩ = some (.int .i64 5) from blk_cell HO0.out 0)
  have z1 := ext_cell (show V.cell? ⟨w.heap.size + 1 + 1, 1, none⟩ = some (.string xt) from blk_cell HO0.out 1)
  have z2 := ext_cell (show V.cell? ⟨w.heap.size + 1 + 1, 2, none⟩ = some (.int .i64 xn) from blk_cell HO0.out 2)
  have z3 := ext_cell (show V.cell? ⟨w.heap.size + 1 + 1, 3, none⟩ = some (.int .i64 xm) from blk_cell HO0.out 3)
  have z4 := ext_cell (show V.cell? ⟨w.heap.size + 1 + 1, 4, none⟩ = some (.bool xf) from blk_cell HO0.out 4)
  have hso := ext_some V
  clear g0 g1 g2 g3 g4
  refine wp_region_ext_tail (w0 := V) 7 (by kernel_rfl) (by kernel_rfl) (Below.refl _ _) ?_
  simp only [List.take_succ_cons, List.take_zero, List.drop_succ_cons, List.drop_zero]
  repeat (go_big_quiet_step (first | (go_at_call 40; exact (H40.out _).mono fun _ _ ⟨he, h⟩ => ⟨he, ⟨_, (Ext.hb _).trans (h.mono (Ext.hb _).size)⟩, rfl⟩) | (go_at_call 39; exact (H39.out _).mono fun _ _ ⟨he, h⟩ => ⟨he, ⟨_, (Ext.hb _).trans (h.mono (Ext.hb _).size)⟩, rfl⟩) | (go_at_call 60; exact (H60.out _).mono fun _ _ ⟨he, h⟩ => ⟨he, ⟨_, (Ext.hb _).trans (h.mono (Ext.hb _).size)⟩, rfl⟩)))
  refine wpQuiet_nil ?_
  intro x
  obtain ⟨Y, hY⟩ : ∃ Y, x.val = Y := ⟨_, rfl⟩
  have HP1 : Hid (PgAt w W (.slice (some ⟨rb, 0, none⟩) s.blocks.length c) s Y) := Lib.hid (by rw [← hY]; exact HP0.out.bel x.hb)
  rw [hY]
  clear x0 x1 x2 x3 x4 z0 z1 z2 z3 z4 hso hY
  have HO1 := Lib.hid (own_below HH.out.own HP1.out.below)
  clear H60 H40 H39 HP0 HO0
  go_wp2_with (refine wpList_store_row rfl 86 _ _ rfl (w.heap.size + 1) (pgC S1 W (.slice (some ⟨rb, 0, none⟩) s.blocks.length c)) rfl rfl 86 _ HP1.out.res size86 rfl pgC_one ?_)
  refine ret86 rfl (w.heap.size + 1) (pgC S1 W (.slice (some ⟨rb, 0, none⟩) s.blocks.length c)) rfl (setRow_heap _ _ _ _ _ _ HP1.out.res) rfl rfl ⟨_, rfl, ?_, ?_, ?_⟩
  · rw [HSB.out]
    exact own_setRow HO1.out (own_ne HO1.out HP1.out.res (by decide)) _
  · have hb := HH.out.below.trans (HP1.out.below.mono HH.out.below.size)
    exact below_setRow hb (Nat.le_trans HH.out.below.size (Nat.le_succ _)) _
  · exact below_grown (below_setRow HP1.out.below (Nat.le_succ _) _) _
end
end Go.Proofs.YtljgpcaljedhpaaDoor
