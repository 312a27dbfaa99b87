/- The reference's step, whatever the operation; its Render, walked. -/
import Derived.Test.YtljgpcaljedhpaaDoorS8
namespace Go.Proofs.YtljgpcaljedhpaaDoor
open Go.RowKit

theorem rstep_any {w0 w : World} {A : Option Addr} {l : List Op} {lcap : Nat} {s : St} {bv : Value} {W M : Int} {i : Nat} {x : Op} (h : StepAsks w0 A l lcap s bv W w) (hx : l[i]? = some x) :
    Calls Tryd.prog 43 #[pageV s W bv, .slice A l.length lcap, .int .i64 i, .int .i64 M] w (StepSays w0 w bv (rstepP W M s x (l.drop (i + 1))) W) := by
  have hval := (h.ok x (List.mem_of_getElem? hx)).1
  unfold rstepP
  rcases kind_cases hval with k | k | k | k | k | k
  · simp only [k, Int.reduceEq, reduceIte]
    exact rstep_text h hx k
  · simp only [k, Int.reduceEq, reduceIte]
    exact rstep_newline h hx k _ rfl
  · simp only [k, Int.reduceEq, reduceIte]
    exact rstep_open h hx k
  · simp only [k, Int.reduceEq, reduceIte]
    exact rstep_close h hx k
  · simp only [k, Int.reduceEq, reduceIte]
    exact rstep_indent h hx k
  · simp only [k, Int.reduceEq, reduceIte]
    exact rstep_tab h hx k

/-- What Render answers. -/
def RenderSays (l : List Op) (W M : Int) (w : World) (e : Ending) (w' : World) : Prop := e = .returned (.tuple #[.string (renderP l W M).1, .int .i64 (renderP l W M).2]) ∧ Below w.heap.size w w'

theorem rbk_first (l : List Op) (W M : Int) : rbC [rfirstBk l W M] = [.int .i64 0, .int .i64 0, .bool (!rfitsP W l 0 (-1) 0), .bool (decide (W ≤ M)), .string ⟨#[]⟩, .bool false, .int .i64 0, .bool (rfitsP W l 0 0 0), .int .i64 0] := by
  simp [rbC, rbkC, rfirstBk]

set_option maxRecDepth 100000 in
set_option maxHeartbeats 1600000 in
theorem rrender_any {E : World → Prop} (L : LibC E) (A : Option Addr) (l : List Op) (cap : Nat) (W M : Int) (w : World) (hE : E w) (hops : OpsIn w A l) (hcap : l.length ≤ cap) (hl : l.length ≤ 60000) (ht : ∀ x ∈ l, x.text.size ≤ 140737488355328) :
    Calls Tryd.prog 16 #[.slice A l.length cap, .int .i64 W, .int .i64 M] w (RenderSays l W M w) := by
  have hck := fun (W1 : World) (hb : Below w.heap.size w W1) => rcheck_any L A l cap W1 (L.below hE hb) (hops.below hb) hcap hl ht
  unfold CheckSays at hck
  obtain ⟨R, hR⟩ : ∃ R, renderP l W M = R := ⟨_, rfl⟩
  have hpost : ∀ e w', (e = .returned (.tuple #[.string R.1, .int .i64 R.2]) ∧ Below w.heap.size w w') → RenderSays l W M w e w' := fun e w' h => by rw [← hR] at h; exact h
  refine Calls.mono ?_ hpost
  rw [← render_same] at hR
  unfold rrenderP at hR
  by_cases hc : checkP l = 0
  · rw [if_neg (fun e => e hc)] at hR
    rw [hc] at hck
    have HCK := Lib.hid hck
    by_cases hrange : W < 1 ∨ W > 200 ∨ M < 0 ∨ M > 200
    · rw [if_pos hrange] at hR
      subst hR
      clear hck hpost ht
      by_cases h1 : W < 1
      · clear hrange
        go_enter Tryd.func16, Tryd.ntmps16
        go_wp2_with (go_at_call 18; refine (HCK.out _ (Below.refl _ _)).mono ?_; rintro e w1 ⟨rfl, hb1⟩)
        go_ret2
        exact ⟨rfl, hb1⟩
      by_cases h2 : W > 200
      · have h2' : (200 : Int) < W := h2
        clear hrange h2
        go_enter Tryd.func16, Tryd.ntmps16
        go_wp2_with (go_at_call 18; refine (HCK.out _ (Below.refl _ _)).mono ?_; rintro e w1 ⟨rfl, hb1⟩)
        go_ret2
        exact ⟨rfl, hb1⟩
      have h2' : ¬ (200 : Int) < W := h2
      by_cases h3 : M < 0
      · clear hrange h2
        go_enter Tryd.func16, Tryd.ntmps16
        go_wp2_with (go_at_call 18; refine (HCK.out _ (Below.refl _ _)).mono ?_; rintro e w1 ⟨rfl, hb1⟩)
        go_ret2
        exact ⟨rfl, hb1⟩
      · have h4 : (200 : Int) < M := by omega
        clear hrange h2
        go_enter Tryd.func16, Tryd.ntmps16
        go_wp2_with (go_at_call 18; refine (HCK.out _ (Below.refl _ _)).mono ?_; rintro e w1 ⟨rfl, hb1⟩)
        go_ret2
        exact ⟨rfl, hb1⟩
    · rw [if_neg hrange] at hR
      have W1 : ¬ W < 1 := by omega
      have W2 : ¬ (200 : Int) < W := by omega
      have M1 : ¬ M < 0 := by omega
      have M2 : ¬ (200 : Int) < M := by omega
      obtain ⟨hval, hfew, hsum, hgo⟩ := check_fine hc
      have hok : ∀ x ∈ l, Valid x ∧ x.text.size ≤ 20000 := fun x hx => ⟨hval x hx, Nat.le_trans (bytesSum_mem hx) hsum⟩
      obtain ⟨T, hT⟩ : ∃ T, rstepsP W M (l.drop 0) (rfirst l W M) = T := ⟨_, rfl⟩
      rw [show rstepsP W M l (rfirst l W M) = T from hT] at hR
      have hf1 := fun w' (hb : Below w.heap.size w w') => rfits_any A l cap 0 0 W (-1) w' (hops.below hb) hok hfew hcap (Nat.zero_le _) (Int.le_refl _) (by decide) (by omega) (by decide) (by decide)
      have hf2 := fun w' (hb : Below w.heap.size w w') => rfits_any A l cap 0 0 W 0 w' (hops.below hb) hok hfew hcap (Nat.zero_le _) (Int.le_refl _) (by decide) (by omega) (by decide) (by decide)
      rw [List.drop_zero] at hf1 hf2
      have hfirst := rbk_first l W M
      have hinv := rfirst_inv l W M
      have hsb : (rfirst l W M).blocks = [rfirstBk l W M] := rfl
      have hso : (rfirst l W M).out = [] := rfl
      have hsa : (rfirst l W M).at_ = 0 := rfl
      have hsl : (rfirst l W M).lines = 0 := rfl
      generalize rfirst l W M = F at *
      generalize rfitsP W l 0 (-1) 0 = f1 at *
      generalize rfitsP W l 0 0 0 = f2 at *
      generalize rfirstBk l W M = fb at *
      have HT := Lib.hid hT
      have HR := Lib.hid hR
      have HF1 := Lib.hid hf1
      have HF2 := Lib.hid hf2
      have HINV := Lib.hid hinv
      have HSB := Lib.hid hsb
      have HFB := Lib.hid hfirst
      have HOK := Lib.hid hok
      have HO := Lib.hid hops
      have HGO : Hid (checkGo (l.drop 0) ((F.blocks.length : Int) - 1) = 0) := Lib.hid (by rw [hsb]; exact hgo)
      have HPG : Hid (∀ sl, pgC F W sl = #[.string ⟨#[]⟩, .int .i64 0, .int .i64 0, .int .i64 W, sl]) := Lib.hid (fun sl => by unfold pgC; rw [hso, hsa, hsl])
      clear hck hpost ht hc hrange hval hsum hgo hok hT hR hf1 hf2 hinv hsb hfirst hops hso hsa hsl
      go_enter Tryd.func16, Tryd.ntmps16
      go_wp2_with (first
        | (go_at_call 18; refine (HCK.out _ (Below.refl _ _)).mono ?_; rintro e w1 ⟨rfl, hb1⟩; have HB1 := Lib.hid hb1; clear hb1))
      refine (HF1.out _ HB1.out).mono ?_
      rintro e w2 ⟨rfl, hb2⟩
      have HB2 := Lib.hid (HB1.out.trans (hb2.mono HB1.out.size))
      clear hb2
      go_wp2_with fail
      refine (HF2.out _ HB2.out).mono ?_
      rintro e w3 ⟨rfl, hb3⟩
      have HB3 := Lib.hid (HB2.out.trans (hb3.mono HB2.out.size))
      clear hb3
      go_wp2_with fail
      obtain ⟨Z, hZ⟩ : ∃ Z, ((w3.alloc (.cells #[.int .i64 0, .int .i64 0, .bool (!f1), .bool (decide (W ≤ M)), .string ⟨#[]⟩, .bool false, .int .i64 0, .bool f2, .int .i64 0] 83)).alloc (.cells #[.int .i64 0, .int .i64 0, .bool (!f1), .bool (decide (W ≤ M)), .string ⟨#[]⟩, .bool false, .int .i64 0, .bool f2, .int .i64 0] 83)).alloc (.cells #[.string ⟨#[]⟩, .int .i64 0, .int .i64 0, .int .i64 W, .slice (some ⟨w3.heap.size + 1, 0, none⟩) 1 1] 86) = Z := ⟨_, rfl⟩
      rw [hZ]
      have hw3 := HB3.out.size
      have hzb : Below w.heap.size w Z := by rw [← hZ]; exact ((HB3.out.alloc hw3 _).alloc (by simp; omega) _).alloc (by simp; omega) _
      have hzg : Z.heap[w3.heap.size + 1 + 1]? = some (.cells (pgC F W (.slice (some ⟨w3.heap.size + 1, 0, none⟩) 1 1)) 86 (0, 0)) := by
        rw [HPG.out, ← hZ]
        have := heap_alloc_new ((w3.alloc (.cells #[.int .i64 0, .int .i64 0, .bool (!f1), .bool (decide (W ≤ M)), .string ⟨#[]⟩, .bool false, .int .i64 0, .bool f2, .int .i64 0] 83)).alloc (.cells #[.int .i64 0, .int .i64 0, .bool (!f1), .bool (decide (W ≤ M)), .string ⟨#[]⟩, .bool false, .int .i64 0, .bool f2, .int .i64 0] 83)) (.cells #[.string ⟨#[]⟩, .int .i64 0, .int .i64 0, .int .i64 W, .slice (some ⟨w3.heap.size + 1, 0, none⟩) 1 1] 86)
        simpa using this
      have hzo : Z.ownsRow w.heap.size 83 9 (.slice (some ⟨w3.heap.size + 1, 0, none⟩) F.blocks.length 1) F.blocks.length (rbC F.blocks) := by
        rw [HSB.out]
        refine ⟨by rw [rbC_len], .inr ⟨w3.heap.size + 1, 1, #[.int .i64 0, .int .i64 0, .bool (!f1), .bool (decide (W ≤ M)), .string ⟨#[]⟩, .bool false, .int .i64 0, .bool f2, .int .i64 0], rfl, by omega, ?_, Nat.le_refl _, by decide, rfl, ?_⟩⟩
        · rw [← hZ, Below.heap_alloc _ _ _ (by simp)]
          exact heap_alloc2 w3 _ _
        · rw [HFB.out]; rfl
      obtain ⟨G, hG⟩ : ∃ G, w3.heap.size + 1 + 1 = G := ⟨_, rfl⟩
      have hGw : w.heap.size ≤ G := by omega
      rw [hG] at hzg ⊢
      have HZB := Lib.hid hzb
      have HZG : Hid (Z.heap[G]? = some (.cells (pgC F W (.slice (some ⟨w3.heap.size + 1, 0, none⟩) F.blocks.length 1)) 86 (0, 0))) := Lib.hid (by rw [HSB.out]; exact hzg)
      have HZO := Lib.hid hzo
      have HLEN : Hid (F.blocks.length ≤ 101) := Lib.hid (by rw [HSB.out]; simp)
      clear hZ hzb hzg hzo hG hw3 HF1 HF2 HB1 HB2 HB3 HCK
      go_loopw [11] (fun v11 w' => ∃ (j : Nat) (st : St) (bv : Value), v11 = .int .i64 j ∧ j ≤ l.length ∧ Hid (rstepsP W M (l.drop j) st = T) ∧ Hid (RInv st) ∧ Hid (st.blocks.length ≤ 101) ∧ Hid (checkGo (l.drop j) ((st.blocks.length : Int) - 1) = 0) ∧ Hid (w'.heap[G]? = some (.cells (pgC st W bv) 86 (0, 0))) ∧ Hid (w'.ownsRow w.heap.size 83 9 bv st.blocks.length (rbC st.blocks)) ∧ Hid (Below w.heap.size w w')) (fun v11 _ => l.length - (intOf v11).toNat)
      case atStart => exact ⟨0, F, _, rfl, Nat.zero_le _, HT, HINV, HLEN, HGO, HZG, HZO, HZB⟩
      case round =>
        obtain ⟨j, st, bv, rfl, hj, HX, HI, HL, HC, HG, HOW, HB⟩ := hrel
        obtain ⟨bA, bc, rfl⟩ := own_slice HOW.out
        obtain ⟨g0, g1, g2, g3, g4⟩ := pg_cell HG.out
        have hg := HI.out.good
        by_cases hlt : j < l.length
        · obtain ⟨x, hx⟩ : ∃ x, l[j]? = some x := ⟨_, List.getElem?_eq_getElem hlt⟩
          have hdr : l.drop j = x :: l.drop (j + 1) := by
            rw [List.drop_eq_getElem_cons hlt]
            rw [List.getElem?_eq_getElem hlt] at hx
            injection hx with hx
            rw [hx]
          obtain ⟨hval, hts⟩ := HOK.out x (List.mem_of_getElem? hx)
          have hX := HX.out
          have hC := HC.out
          rw [hdr] at hX hC
          unfold rstepsP at hX
          rw [checkGo_cons] at hC
          have hC1 : checkGo (l.drop (j + 1)) (deeper x ((st.blocks.length : Int) - 1)) = 0 ∧ 0 ≤ deeper x ((st.blocks.length : Int) - 1) ∧ deeper x ((st.blocks.length : Int) - 1) ≤ 100 := by
            split at hC
            · rename_i hne; exact absurd hC hne
            · split at hC
              · exact absurd hC (by decide)
              · rename_i _ h2; exact ⟨hC, by omega, by omega⟩
          have hdd : deeper x ((st.blocks.length : Int) - 1) = deeper x (st.blocks.length : Int) - 1 := by
            unfold deeper
            split
            · omega
            · split <;> omega
          have hbr : BrokenAsks st := by
            obtain ⟨c0, c1⟩ := good_at hg
            obtain ⟨n0, n1⟩ := good_lines hg
            exact ⟨c0, by omega, n0, by omega, by have := hg.len; omega, HI.out.ne, by have := HL.out; omega, hg.bk, fun b hb => (HI.out.pre b hb).1⟩
          have hstep := rstep_any (W := W) (M := M) (lcap := cap) (s := st) (i := j) ⟨HO.out, HOK.out, hfew, hcap, hbr, HOW.out, HB.out, by omega, by omega⟩ hx
          have hinv := rstep_inv W M st x (l.drop (j + 1)) HI.out hval (fun y hy => (HOK.out y (List.mem_of_mem_drop hy)).1) hts (by omega)
          generalize rstepP W M st x (l.drop (j + 1)) = S' at *
          have hsz : (⟨S'.out.toArray⟩ : ByteArray).size = S'.out.length := by show S'.out.toArray.size = _; simp
          obtain ⟨N, hN⟩ : ∃ N, S'.out.length = N := ⟨_, rfl⟩
          rw [hN] at hsz hX hinv
          unfold pageV at hstep
          have HSTEP := Lib.hid hstep
          have HIN := Lib.hid hinv
          have HCC := Lib.hid hC1
          have HDD := Lib.hid hdd
          clear hdr hC hC1 hdd hbr hstep hinv hval hts hx hg hN HX
          by_cases hbig : N ≤ 100000
          · rw [if_pos hbig] at hX
            have HX := Lib.hid hX
            have hbig' : ¬ (100000 : Int) < (N : Int) := by omega
            clear hX
            go_wp2_with fail
            refine HSTEP.out.mono ?_
            rintro e w4 ⟨bv4, rfl, hown4, hb4, hgr4⟩
            obtain ⟨A4, c4, rfl⟩ := own_slice hown4
            have hg4 := blk_grown HG.out hgr4 (own_ne HOW.out HG.out (by decide))
            have HG4 := Lib.hid hg4
            have HG5 : Hid ((w4.setRow G (pgC S' W (.slice A4 S'.blocks.length c4))).heap[G]? = some (.cells (pgC S' W (.slice A4 S'.blocks.length c4)) 86 (0, 0))) := Lib.hid (setRow_heap _ _ _ _ _ _ hg4)
            have HOW5 := Lib.hid (own_setRow hown4 (own_ne hown4 hg4 (by decide)) (pgC S' W (.slice A4 S'.blocks.length c4)))
            have HB5 := Lib.hid (below_setRow hb4 hGw (pgC S' W (.slice A4 S'.blocks.length c4)))
            obtain ⟨k0, k1, k2, k3, k4⟩ := pg_cell HG5.out
            obtain ⟨hI2, hL2⟩ := HIN.out hbig
            have HI2 := Lib.hid hI2
            have HCC2 : Hid (checkGo (l.drop (j + 1)) ((S'.blocks.length : Int) - 1) = 0) := Lib.hid (by rw [hL2, ← HDD.out]; exact HCC.out.1)
            have HL2 : Hid (S'.blocks.length ≤ 101) := Lib.hid (by have := HCC.out.2.2; rw [HDD.out, ← hL2] at this; omega)
            clear hown4 hb4 hgr4 hg4 hI2 hL2 g0 g1 g2 g3 g4 HSTEP
            unfold pageV
            go_wp2_with (refine wpList_store_row rfl 86 _ _ rfl G (pgC S' W (.slice A4 S'.blocks.length c4)) rfl rfl 86 _ HG4.out size86 rfl pgC_one ?_)
            go_roundw
            case rel => exact ⟨j + 1, S', _, by go_num, by omega, HX, HI2, HL2, HCC2, HG5, HOW5, HB5⟩
            case measure => simp [intOf]; omega
          · rw [if_neg hbig] at hX
            subst hX
            have hR := HR.out
            subst hR
            have hbig' : (100000 : Int) < (N : Int) := by omega
            clear HR HT
            go_wp2_with fail
            refine HSTEP.out.mono ?_
            rintro e w4 ⟨bv4, rfl, hown4, hb4, hgr4⟩
            obtain ⟨A4, c4, rfl⟩ := own_slice hown4
            have hg4 := blk_grown HG.out hgr4 (own_ne HOW.out HG.out (by decide))
            have HG4 := Lib.hid hg4
            have HG5 : Hid ((w4.setRow G (pgC S' W (.slice A4 S'.blocks.length c4))).heap[G]? = some (.cells (pgC S' W (.slice A4 S'.blocks.length c4)) 86 (0, 0))) := Lib.hid (setRow_heap _ _ _ _ _ _ hg4)
            have HB5 := Lib.hid (below_setRow hb4 hGw (pgC S' W (.slice A4 S'.blocks.length c4)))
            obtain ⟨k0, k1, k2, k3, k4⟩ := pg_cell HG5.out
            clear hown4 hb4 hgr4 hg4 g0 g1 g2 g3 g4 HSTEP
            unfold pageV
            go_wp2_with (refine wpList_store_row rfl 86 _ _ rfl G (pgC S' W (.slice A4 S'.blocks.length c4)) rfl rfl 86 _ HG4.out size86 rfl pgC_one ?_)
            go_ret2
            exact ⟨rfl, HB5.out⟩
        · obtain rfl : j = l.length := by omega
          have hX := HX.out
          rw [List.drop_length] at hX
          unfold rstepsP at hX
          subst hX
          have hR := HR.out
          subst hR
          clear HX HR HT
          go_wp2_with fail
          go_ret2
          exact ⟨rfl, HB.out⟩
  · rw [if_pos hc] at hR
    subst hR
    generalize checkP l = c at *
    have hc' : (c == 0) = false := by simpa using hc
    have HCK := Lib.hid hck
    clear hck hops hpost ht hc
    go_enter Tryd.func16, Tryd.ntmps16
    go_wp2_with (go_at_call 18; refine (HCK.out _ (Below.refl _ _)).mono ?_; rintro e w1 ⟨rfl, hb1⟩)
    go_ret2
    exact ⟨rfl, hb1⟩
end Go.Proofs.YtljgpcaljedhpaaDoor
