/- The reference's step, walked: a newline; then step, whatever the operation. -/
import Derived.Test.YtljgpcaljedhpaaDoorS7
namespace Go.Proofs.YtljgpcaljedhpaaDoor
open Go.RowKit

section
variable {w0 w : World} {A : Option Addr} {l : List Op} {lcap : Nat} {s : St} {bv : Value} {W M : Int} {i : Nat} {x : Op}

set_option maxRecDepth 100000 in
set_option maxHeartbeats 3200000 in
theorem rstep_newline (h : StepAsks w0 A l lcap s bv W w) (hx : l[i]? = some x) (hk : x.kind = 1) (S1 : St) (hS : S1 = if rbreaksP W s x (l.drop (i + 1)) = true then rbrokenP s else s) :
    Calls Tryd.prog 43 #[pageV s W bv, .slice A l.length lcap, .int .i64 i, .int .i64 M] w
      (StepSays w0 w bv { S1 with blocks := setTop s.blocks { topOf s with lines := S1.lines, slong := !rfitsP W (l.drop (i + 1)) 0 0 S1.at_ } } W) := by
  obtain ⟨rb, c, rfl, hp, _⟩ := h.page
  have hi := (List.getElem?_eq_some_iff.1 hx).1
  have hl4 := h.len
  have hlc := h.lcap
  have hfew := h.br.few
  obtain ⟨hval, hts⟩ := h.ok x (List.mem_of_getElem? hx)
  have hpops := hp.ops
  obtain ⟨aop, rfl, ho, hlo⟩ := hp.ops (by rintro rfl; simp at hi)
  obtain ⟨a0, a1, a2, a3, a4⟩ := ho i x hx
  have hne := List.length_pos_iff.2 h.br.ne
  have hcl := hp.cap
  have e1 : ((s.blocks.length : Nat) : Int) - 1 = ((s.blocks.length - 1 : Nat) : Int) := by omega
  have e2 : IntKind.i64.wrap ((i : Int) + 1) = ((i + 1 : Nat) : Int) := IntWalk.i64_in _ (by omega)
  have hltq : s.blocks.length - 1 < s.blocks.length := by omega
  have HQ := Lib.hid (show s.blocks.length = (s.blocks.length - 1) + 1 by omega)
  have hrb := hp.lt
  have h62 := fun w1 (hb : Below w.heap.size w w1) => rbreaks_any (some aop) l lcap s ⟨rb, 0, none⟩ c W i x w1 (hp.bel hb) hx hk
  have h63 := fun w1 (hb : Below w.heap.size w w1) => rbroken_any s W ⟨rb, 0, none⟩ c w1 h.br (hp.bks.below hb hp.lt) (Nat.lt_of_lt_of_le hp.lt hb.size) hp.cap
  have hsm : 0 ≤ S1.at_ ∧ S1.at_ ≤ 1100000000 := by
    rw [hS]
    split
    · have := rbroken_sm h.br
      exact ⟨this.a0, by have := this.a1; omega⟩
    · exact ⟨h.br.a0, by have := h.br.a1; omega⟩
  have hfit := fun w' (hb : Below w.heap.size w w') => rfits_any (some aop) l lcap (i + 1) S1.at_ W 0 w' (hpops.below hb) h.ok h.len h.lcap (by omega) hsm.1 (by omega) h.hi (by decide) (by decide)
  have hbks := fun w1 (hb : Below w.heap.size w w1) => bks_top (s := s) (hp.bks.below hb hp.lt) h.br.ne
  generalize rfitsP W (l.drop (i + 1)) 0 0 S1.at_ = f at *
  generalize rbreaksP W s x (l.drop (i + 1)) = br at *
  generalize htt : topOf s = b at *
  obtain ⟨bst, bin, bfr, bpre, blo, bmi, bea, bli, bsl⟩ := b
  obtain ⟨xk, xt, xn, xm, xf⟩ := x
  simp only at a0 a1 a2 a3 a4 hts hk hbks
  subst hk
  unfold pageV at h62 h63
  have H62 := Lib.hid h62
  have H63 := Lib.hid h63
  have HF := Lib.hid hfit
  have HBK := Lib.hid hbks
  have HH := Lib.hid h
  have y0 := al2 a0
  have y1 := al2 a1
  have y2 := al2 a2
  have y3 := al2 a3
  have y4 := al2 a4
  obtain ⟨hp0, ho0⟩ := three_at w s W (.slice (some ⟨rb, 0, none⟩) s.blocks.length c) #[.int .i64 1, .string xt, .int .i64 xn, .int .i64 xm, .bool xf]
  have HP0 := Lib.hid hp0
  have HO0 := Lib.hid ho0
  clear h h62 h63 hfit hbks hx hval ho hp hpops a0 a1 a2 a3 a4 hp0 ho0 htt
  unfold pageV
  cases br
  · simp only [Bool.false_eq_true, reduceIte] at hS
    subst hS
    go_enter Tryd.func43, Tryd.ntmps43
    go_wp2_with fail
    refine (H62.out _ HP0.out.below).mono ?_
    rintro e w1 ⟨rfl, hb1⟩
    have HPY := Lib.hid (HP0.out.bel hb1)
    clear hb1 HP0 HO0 H62 H63 y0 y1 y2 y3 y4
    obtain ⟨p0, p1, p2, p3, p4⟩ := pg_cell HPY.out.pg
    obtain ⟨v0, v1, v2, v3, v4, v5, v6, v7, v8⟩ := HBK.out _ HPY.out.below
    have j1 := al1 p1
    have j3 := al1 p3
    go_wp2_with fail
    have hgy : w.heap.size + 1 < w1.heap.size := by have := blk_lt HPY.out.res; first | exact this | (rw [size_setRow] at this; exact this)
    have hry : rb < w1.heap.size := by have := HPY.out.below.size; (first | omega | (rw [size_setRow] at this; omega))
    obtain ⟨V, hV⟩ : ∃ V, (w1).alloc (.cells #[.int .i64 bst, .int .i64 bin, .bool blo, .bool bmi, .string bpre, .bool bea, .int .i64 bfr, .bool (!bsl), .int .i64 bli] 83) = V := ⟨_, rfl⟩
    rw [hV]
    have HPV : Hid (PgAt w W (.slice (some ⟨rb, 0, none⟩) S1.blocks.length c) S1 V) := Lib.hid (by rw [← hV]; exact HPY.out.bel (new1 _ _))
    have HTV : Hid (V.heap[w1.heap.size]? = some (.cells #[.int .i64 bst, .int .i64 bin, .bool blo, .bool bmi, .string bpre, .bool bea, .int .i64 bfr, .bool (!bsl), .int .i64 bli] 83 (0, 0))) := Lib.hid (by
      rw [← hV]
      have := heap_alloc_new (w1) (.cells #[.int .i64 bst, .int .i64 bin, .bool blo, .bool bmi, .string bpre, .bool bea, .int .i64 bfr, .bool (!bsl), .int .i64 bli] 83)
      first | exact this | (rw [size_setRow] at this; exact this))
    clear hV p0 p1 p2 p3 p4 v0 v1 v2 v3 v4 v5 v6 v7 v8 j1 j3 HPY
    refine (HF.out V HPV.out.below).mono ?_
    rintro e w6 ⟨rfl, hb6⟩
    have HP6 := Lib.hid (HPV.out.bel hb6)
    have HT6 := Lib.hid (blk_below HTV.out hb6)
    have t7 : w6.cell? ⟨w1.heap.size, 7, none⟩ = some (.bool (!bsl)) := blk_cell HT6.out 7
    have tf := blk_frozen HT6.out
    have HP7 := Lib.hid (HP6.out.far w1.heap.size 7 (.bool f) hgy)
    have HT7 : Hid ((w6.setCell ⟨w1.heap.size, 7, none⟩ (.bool f)).heap[w1.heap.size]? = some (.cells #[.int .i64 bst, .int .i64 bin, .bool blo, .bool bmi, .string bpre, .bool bea, .int .i64 bfr, .bool f, .int .i64 bli] 83 (0, 0))) := Lib.hid (by rw [blk_set HT6.out 7]; rfl)
    have t8 : (w6.setCell ⟨w1.heap.size, 7, none⟩ (.bool f)).cell? ⟨w1.heap.size, 8, none⟩ = some (.int .i64 bli) := blk_cell HT7.out 8
    have tf8 := blk_frozen HT7.out
    have q2 := (pg_cell HP7.out.pg).2.2.1
    have HP8 := Lib.hid (HP7.out.far w1.heap.size 8 (.int .i64 S1.lines) hgy)
    have HT8 : Hid (((w6.setCell ⟨w1.heap.size, 7, none⟩ (.bool f)).setCell ⟨w1.heap.size, 8, none⟩ (.int .i64 S1.lines)).heap[w1.heap.size]? = some (.cells #[.int .i64 bst, .int .i64 bin, .bool blo, .bool bmi, .string bpre, .bool bea, .int .i64 bfr, .bool f, .int .i64 S1.lines] 83 (0, 0))) := Lib.hid (by rw [blk_set HT7.out 8]; rfl)
    have q4 := (pg_cell HP8.out.pg).2.2.2.2
    have u0 : ((w6.setCell ⟨w1.heap.size, 7, none⟩ (.bool f)).setCell ⟨w1.heap.size, 8, none⟩ (.int .i64 S1.lines)).cell? ⟨w1.heap.size, 0, none⟩ = some (.int .i64 bst) := blk_cell HT8.out 0
    have u1 : ((w6.setCell ⟨w1.heap.size, 7, none⟩ (.bool f)).setCell ⟨w1.heap.size, 8, none⟩ (.int .i64 S1.lines)).cell? ⟨w1.heap.size, 1, none⟩ = some (.int .i64 bin) := blk_cell HT8.out 1
    have u2 : ((w6.setCell ⟨w1.heap.size, 7, none⟩ (.bool f)).setCell ⟨w1.heap.size, 8, none⟩ (.int .i64 S1.lines)).cell? ⟨w1.heap.size, 2, none⟩ = some (.bool blo) := blk_cell HT8.out 2
    have u3 : ((w6.setCell ⟨w1.heap.size, 7, none⟩ (.bool f)).setCell ⟨w1.heap.size, 8, none⟩ (.int .i64 S1.lines)).cell? ⟨w1.heap.size, 3, none⟩ = some (.bool bmi) := blk_cell HT8.out 3
    have u4 : ((w6.setCell ⟨w1.heap.size, 7, none⟩ (.bool f)).setCell ⟨w1.heap.size, 8, none⟩ (.int .i64 S1.lines)).cell? ⟨w1.heap.size, 4, none⟩ = some (.string bpre) := blk_cell HT8.out 4
    have u5 : ((w6.setCell ⟨w1.heap.size, 7, none⟩ (.bool f)).setCell ⟨w1.heap.size, 8, none⟩ (.int .i64 S1.lines)).cell? ⟨w1.heap.size, 5, none⟩ = some (.bool bea) := blk_cell HT8.out 5
    have u6 : ((w6.setCell ⟨w1.heap.size, 7, none⟩ (.bool f)).setCell ⟨w1.heap.size, 8, none⟩ (.int .i64 S1.lines)).cell? ⟨w1.heap.size, 6, none⟩ = some (.int .i64 bfr) := blk_cell HT8.out 6
    have u7 : ((w6.setCell ⟨w1.heap.size, 7, none⟩ (.bool f)).setCell ⟨w1.heap.size, 8, none⟩ (.int .i64 S1.lines)).cell? ⟨w1.heap.size, 7, none⟩ = some (.bool f) := blk_cell HT8.out 7
    have u8 : ((w6.setCell ⟨w1.heap.size, 7, none⟩ (.bool f)).setCell ⟨w1.heap.size, 8, none⟩ (.int .i64 S1.lines)).cell? ⟨w1.heap.size, 8, none⟩ = some (.int .i64 S1.lines) := blk_cell HT8.out 8
    have HO8 : Hid (((w6.setCell ⟨w1.heap.size, 7, none⟩ (.bool f)).setCell ⟨w1.heap.size, 8, none⟩ (.int .i64 S1.lines)).ownsRow w0.heap.size 83 9 (.slice (some ⟨rb, 0, none⟩) S1.blocks.length c) S1.blocks.length (rbC S1.blocks)) := Lib.hid (by
      have hne : some w1.heap.size ≠ (.slice (some ⟨rb, 0, none⟩) S1.blocks.length c : Value).ownBlock := by
        show some w1.heap.size ≠ some rb
        intro e
        injection e with e
        omega
      exact own_set (own_set (own_below HH.out.own HP6.out.below) (p := ⟨w1.heap.size, 7, none⟩) hne _) (p := ⟨w1.heap.size, 8, none⟩) hne _)
    clear hb6 HPV HTV HF HT6 HT7 HT8
    cases f
    · go_wp2_with (refine wpList_store_last rfl _ _ rfl ({ start := bst, indent := bin, front := bfr, pre := bpre, long := blo, miser := bmi, each := bea, lines := S1.lines, slong := !false } : Bk) rfl rfl HO8.out HQ.out ?_)
      intro Z hO hoth hbel
      obtain ⟨kp, kr⟩ := after_last HP8.out HO8.out hoth
      have hfin := hbel w0 (HH.out.below.trans (HP8.out.below.mono HH.out.below.size))
      obtain ⟨g0, g1, g2, g3, g4⟩ := pg_cell kp
      have KR := Lib.hid kr
      have KO := Lib.hid (own_setRow hO (own_ne hO kr (by decide)) (pgC S1 W (.slice (some ⟨rb, 0, none⟩) S1.blocks.length c)))
      have KW := Lib.hid (last_grown (n := S1.blocks.length) (c := c) HP8.out.below hoth (hbel _ (Below.refl _ _)) (pgC S1 W (.slice (some ⟨rb, 0, none⟩) S1.blocks.length c)))
      have KB := Lib.hid (below_setRow hfin (Nat.le_trans HH.out.below.size (Nat.le_succ _)) (pgC S1 W (.slice (some ⟨rb, 0, none⟩) S1.blocks.length c)))
      clear hO hoth hbel kp kr hfin HO8 HP6 HP7 HP8 t7 tf t8 tf8 q2 q4 u0 u1 u2 u3 u4 u5 u6 u7 u8
      go_wp2_with (refine wpList_store_row rfl 86 _ _ rfl (w.heap.size + 1) (pgC S1 W (.slice (some ⟨rb, 0, none⟩) S1.blocks.length c)) rfl rfl 86 _ KR.out size86 rfl pgC_one ?_)
      exact ret86 rfl (w.heap.size + 1) (pgC S1 W (.slice (some ⟨rb, 0, none⟩) S1.blocks.length c)) rfl (setRow_heap _ _ _ _ _ _ KR.out) rfl rfl ⟨_, rfl, KO.out, KB.out, KW.out⟩
    · go_wp2_with (refine wpList_store_last rfl _ _ rfl ({ start := bst, indent := bin, front := bfr, pre := bpre, long := blo, miser := bmi, each := bea, lines := S1.lines, slong := !true } : Bk) rfl rfl HO8.out HQ.out ?_)
      intro Z hO hoth hbel
      obtain ⟨kp, kr⟩ := after_last HP8.out HO8.out hoth
      have hfin := hbel w0 (HH.out.below.trans (HP8.out.below.mono HH.out.below.size))
      obtain ⟨g0, g1, g2, g3, g4⟩ := pg_cell kp
      have KR := Lib.hid kr
      have KO := Lib.hid (own_setRow hO (own_ne hO kr (by decide)) (pgC S1 W (.slice (some ⟨rb, 0, none⟩) S1.blocks.length c)))
      have KW := Lib.hid (last_grown (n := S1.blocks.length) (c := c) HP8.out.below hoth (hbel _ (Below.refl _ _)) (pgC S1 W (.slice (some ⟨rb, 0, none⟩) S1.blocks.length c)))
      have KB := Lib.hid (below_setRow hfin (Nat.le_trans HH.out.below.size (Nat.le_succ _)) (pgC S1 W (.slice (some ⟨rb, 0, none⟩) S1.blocks.length c)))
      clear hO hoth hbel kp kr hfin HO8 HP6 HP7 HP8 t7 tf t8 tf8 q2 q4 u0 u1 u2 u3 u4 u5 u6 u7 u8
      go_wp2_with (refine wpList_store_row rfl 86 _ _ rfl (w.heap.size + 1) (pgC S1 W (.slice (some ⟨rb, 0, none⟩) S1.blocks.length c)) rfl rfl 86 _ KR.out size86 rfl pgC_one ?_)
      exact ret86 rfl (w.heap.size + 1) (pgC S1 W (.slice (some ⟨rb, 0, none⟩) S1.blocks.length c)) rfl (setRow_heap _ _ _ _ _ _ KR.out) rfl rfl ⟨_, rfl, KO.out, KB.out, KW.out⟩
  · simp only [reduceIte] at hS
    rw [← hS] at H63
    clear hS
    go_enter Tryd.func43, Tryd.ntmps43
    go_wp2_with fail
    refine (H62.out _ HP0.out.below).mono ?_
    rintro e w1 ⟨rfl, hb1⟩
    have HP1 := Lib.hid (HP0.out.bel hb1)
    obtain ⟨q0, q1, q2, q3, q4⟩ := pg_cell HP1.out.pg
    clear hb1 HP0 HO0 H62 y0 y1 y2 y3 y4
    go_wp2_with fail
    refine (H63.out _ HP1.out.below).mono ?_
    rintro e w2 ⟨rfl, hb2⟩
    have HP2 := Lib.hid (HP1.out.bel hb2)
    have HP3 : Hid (PgAt w W (.slice (some ⟨rb, 0, none⟩) s.blocks.length c) S1 (w2.setRow w.heap.size (pgC S1 W (.slice (some ⟨rb, 0, none⟩) s.blocks.length c)))) := HP2.out.row
    obtain ⟨p0, p1, p2, p3, p4⟩ := pg_cell HP3.out.pg
    obtain ⟨v0, v1, v2, v3, v4, v5, v6, v7, v8⟩ := HBK.out _ HP3.out.below
    clear hb2 H63 q0 q1 q2 q3 q4 HP1
    have ns := size_setRow w2 w.heap.size (pgC S1 W (.slice (some ⟨rb, 0, none⟩) s.blocks.length c))
    have j1 := al1 p1
    have j3 := al1 p3
    have HPY := HP3
    go_wp2_with (refine wpList_store_row rfl 86 _ _ rfl w.heap.size (pgC S1 W (.slice (some ⟨rb, 0, none⟩) s.blocks.length c)) rfl rfl 86 _ HP2.out.pg size86 rfl pgC_one ?_)
    have hgy : w.heap.size + 1 < w2.heap.size := by have := blk_lt HPY.out.res; first | exact this | (rw [size_setRow] at this; exact this)
    have hry : rb < w2.heap.size := by have := HPY.out.below.size; (first | omega | (rw [size_setRow] at this; omega))
    obtain ⟨V, hV⟩ : ∃ V, (w2.setRow w.heap.size (pgC S1 W (.slice (some ⟨rb, 0, none⟩) s.blocks.length c))).alloc (.cells #[.int .i64 bst, .int .i64 bin, .bool blo, .bool bmi, .string bpre, .bool bea, .int .i64 bfr, .bool (!bsl), .int .i64 bli] 83) = V := ⟨_, rfl⟩
    rw [hV]
    have HPV : Hid (PgAt w W (.slice (some ⟨rb, 0, none⟩) s.blocks.length c) S1 V) := Lib.hid (by rw [← hV]; exact HPY.out.bel (new1 _ _))
    have HTV : Hid (V.heap[w2.heap.size]? = some (.cells #[.int .i64 bst, .int .i64 bin, .bool blo, .bool bmi, .string bpre, .bool bea, .int .i64 bfr, .bool (!bsl), .int .i64 bli] 83 (0, 0))) := Lib.hid (by
      rw [← hV]
      have := heap_alloc_new (w2.setRow w.heap.size (pgC S1 W (.slice (some ⟨rb, 0, none⟩) s.blocks.length c))) (.cells #[.int .i64 bst, .int .i64 bin, .bool blo, .bool bmi, .string bpre, .bool bea, .int .i64 bfr, .bool (!bsl), .int .i64 bli] 83)
      first | exact this | (rw [size_setRow] at this; exact this))
    clear hV p0 p1 p2 p3 p4 v0 v1 v2 v3 v4 v5 v6 v7 v8 j1 j3 HPY
    refine (HF.out V HPV.out.below).mono ?_
    rintro e w6 ⟨rfl, hb6⟩
    have HP6 := Lib.hid (HPV.out.bel hb6)
    have HT6 := Lib.hid (blk_below HTV.out hb6)
    have t7 : w6.cell? ⟨w2.heap.size, 7, none⟩ = some (.bool (!bsl)) := blk_cell HT6.out 7
    have tf := blk_frozen HT6.out
    have HP7 := Lib.hid (HP6.out.far w2.heap.size 7 (.bool f) hgy)
    have HT7 : Hid ((w6.setCell ⟨w2.heap.size, 7, none⟩ (.bool f)).heap[w2.heap.size]? = some (.cells #[.int .i64 bst, .int .i64 bin, .bool blo, .bool bmi, .string bpre, .bool bea, .int .i64 bfr, .bool f, .int .i64 bli] 83 (0, 0))) := Lib.hid (by rw [blk_set HT6.out 7]; rfl)
    have t8 : (w6.setCell ⟨w2.heap.size, 7, none⟩ (.bool f)).cell? ⟨w2.heap.size, 8, none⟩ = some (.int .i64 bli) := blk_cell HT7.out 8
    have tf8 := blk_frozen HT7.out
    have q2 := (pg_cell HP7.out.pg).2.2.1
    have HP8 := Lib.hid (HP7.out.far w2.heap.size 8 (.int .i64 S1.lines) hgy)
    have HT8 : Hid (((w6.setCell ⟨w2.heap.size, 7, none⟩ (.bool f)).setCell ⟨w2.heap.size, 8, none⟩ (.int .i64 S1.lines)).heap[w2.heap.size]? = some (.cells #[.int .i64 bst, .int .i64 bin, .bool blo, .bool bmi, .string bpre, .bool bea, .int .i64 bfr, .bool f, .int .i64 S1.lines] 83 (0, 0))) := Lib.hid (by rw [blk_set HT7.out 8]; rfl)
    have q4 := (pg_cell HP8.out.pg).2.2.2.2
    have u0 : ((w6.setCell ⟨w2.heap.size, 7, none⟩ (.bool f)).setCell ⟨w2.heap.size, 8, none⟩ (.int .i64 S1.lines)).cell? ⟨w2.heap.size, 0, none⟩ = some (.int .i64 bst) := blk_cell HT8.out 0
    have u1 : ((w6.setCell ⟨w2.heap.size, 7, none⟩ (.bool f)).setCell ⟨w2.heap.size, 8, none⟩ (.int .i64 S1.lines)).cell? ⟨w2.heap.size, 1, none⟩ = some (.int .i64 bin) := blk_cell HT8.out 1
    have u2 : ((w6.setCell ⟨w2.heap.size, 7, none⟩ (.bool f)).setCell ⟨w2.heap.size, 8, none⟩ (.int .i64 S1.lines)).cell? ⟨w2.heap.size, 2, none⟩ = some (.bool blo) := blk_cell HT8.out 2
    have u3 : ((w6.setCell ⟨w2.heap.size, 7, none⟩ (.bool f)).setCell ⟨w2.heap.size, 8, none⟩ (.int .i64 S1.lines)).cell? ⟨w2.heap.size, 3, none⟩ = some (.bool bmi) := blk_cell HT8.out 3
    have u4 : ((w6.setCell ⟨w2.heap.size, 7, none⟩ (.bool f)).setCell ⟨w2.heap.size, 8, none⟩ (.int .i64 S1.lines)).cell? ⟨w2.heap.size, 4, none⟩ = some (.string bpre) := blk_cell HT8.out 4
    have u5 : ((w6.setCell ⟨w2.heap.size, 7, none⟩ (.bool f)).setCell ⟨w2.heap.size, 8, none⟩ (.int .i64 S1.lines)).cell? ⟨w2.heap.size, 5, none⟩ = some (.bool bea) := blk_cell HT8.out 5
    have u6 : ((w6.setCell ⟨w2.heap.size, 7, none⟩ (.bool f)).setCell ⟨w2.heap.size, 8, none⟩ (.int .i64 S1.lines)).cell? ⟨w2.heap.size, 6, none⟩ = some (.int .i64 bfr) := blk_cell HT8.out 6
    have u7 : ((w6.setCell ⟨w2.heap.size, 7, none⟩ (.bool f)).setCell ⟨w2.heap.size, 8, none⟩ (.int .i64 S1.lines)).cell? ⟨w2.heap.size, 7, none⟩ = some (.bool f) := blk_cell HT8.out 7
    have u8 : ((w6.setCell ⟨w2.heap.size, 7, none⟩ (.bool f)).setCell ⟨w2.heap.size, 8, none⟩ (.int .i64 S1.lines)).cell? ⟨w2.heap.size, 8, none⟩ = some (.int .i64 S1.lines) := blk_cell HT8.out 8
    have HO8 : Hid (((w6.setCell ⟨w2.heap.size, 7, none⟩ (.bool f)).setCell ⟨w2.heap.size, 8, none⟩ (.int .i64 S1.lines)).ownsRow w0.heap.size 83 9 (.slice (some ⟨rb, 0, none⟩) s.blocks.length c) s.blocks.length (rbC s.blocks)) := Lib.hid (by
      have hne : some w2.heap.size ≠ (.slice (some ⟨rb, 0, none⟩) s.blocks.length c : Value).ownBlock := by
        show some w2.heap.size ≠ some rb
        intro e
        injection e with e
        omega
      exact own_set (own_set (own_below HH.out.own HP6.out.below) (p := ⟨w2.heap.size, 7, none⟩) hne _) (p := ⟨w2.heap.size, 8, none⟩) hne _)
    clear hb6 HPV HTV HF HT6 HT7 HT8
    cases f
    · go_wp2_with (refine wpList_store_last rfl _ _ rfl ({ start := bst, indent := bin, front := bfr, pre := bpre, long := blo, miser := bmi, each := bea, lines := S1.lines, slong := !false } : Bk) rfl rfl HO8.out HQ.out ?_)
      intro Z hO hoth hbel
      obtain ⟨kp, kr⟩ := after_last HP8.out HO8.out hoth
      have hfin := hbel w0 (HH.out.below.trans (HP8.out.below.mono HH.out.below.size))
      obtain ⟨g0, g1, g2, g3, g4⟩ := pg_cell kp
      have KR := Lib.hid kr
      have KO := Lib.hid (own_setRow hO (own_ne hO kr (by decide)) (pgC S1 W (.slice (some ⟨rb, 0, none⟩) s.blocks.length c)))
      have KW := Lib.hid (last_grown (n := s.blocks.length) (c := c) HP8.out.below hoth (hbel _ (Below.refl _ _)) (pgC S1 W (.slice (some ⟨rb, 0, none⟩) s.blocks.length c)))
      have KB := Lib.hid (below_setRow hfin (Nat.le_trans HH.out.below.size (Nat.le_succ _)) (pgC S1 W (.slice (some ⟨rb, 0, none⟩) s.blocks.length c)))
      clear hO hoth hbel kp kr hfin HO8 HP6 HP7 HP8 t7 tf t8 tf8 q2 q4 u0 u1 u2 u3 u4 u5 u6 u7 u8
      go_wp2_with (refine wpList_store_row rfl 86 _ _ rfl (w.heap.size + 1) (pgC S1 W (.slice (some ⟨rb, 0, none⟩) s.blocks.length c)) rfl rfl 86 _ KR.out size86 rfl pgC_one ?_)
      exact ret86 rfl (w.heap.size + 1) (pgC S1 W (.slice (some ⟨rb, 0, none⟩) s.blocks.length c)) rfl (setRow_heap _ _ _ _ _ _ KR.out) rfl rfl ⟨_, rfl, KO.out, KB.out, KW.out⟩
    · go_wp2_with (refine wpList_store_last rfl _ _ rfl ({ start := bst, indent := bin, front := bfr, pre := bpre, long := blo, miser := bmi, each := bea, lines := S1.lines, slong := !true } : Bk) rfl rfl HO8.out HQ.out ?_)
      intro Z hO hoth hbel
      obtain ⟨kp, kr⟩ := after_last HP8.out HO8.out hoth
      have hfin := hbel w0 (HH.out.below.trans (HP8.out.below.mono HH.out.below.size))
      obtain ⟨g0, g1, g2, g3, g4⟩ := pg_cell kp
      have KR := Lib.hid kr
      have KO := Lib.hid (own_setRow hO (own_ne hO kr (by decide)) (pgC S1 W (.slice (some ⟨rb, 0, none⟩) s.blocks.length c)))
      have KW := Lib.hid (last_grown (n := s.blocks.length) (c := c) HP8.out.below hoth (hbel _ (Below.refl _ _)) (pgC S1 W (.slice (some ⟨rb, 0, none⟩) s.blocks.length c)))
      have KB := Lib.hid (below_setRow hfin (Nat.le_trans HH.out.below.size (Nat.le_succ _)) (pgC S1 W (.slice (some ⟨rb, 0, none⟩) s.blocks.length c)))
      clear hO hoth hbel kp kr hfin HO8 HP6 HP7 HP8 t7 tf t8 tf8 q2 q4 u0 u1 u2 u3 u4 u5 u6 u7 u8
      go_wp2_with (refine wpList_store_row rfl 86 _ _ rfl (w.heap.size + 1) (pgC S1 W (.slice (some ⟨rb, 0, none⟩) s.blocks.length c)) rfl rfl 86 _ KR.out size86 rfl pgC_one ?_)
      exact ret86 rfl (w.heap.size + 1) (pgC S1 W (.slice (some ⟨rb, 0, none⟩) s.blocks.length c)) rfl (setRow_heap _ _ _ _ _ _ KR.out) rfl rfl ⟨_, rfl, KO.out, KB.out, KW.out⟩
end
end Go.Proofs.YtljgpcaljedhpaaDoor
