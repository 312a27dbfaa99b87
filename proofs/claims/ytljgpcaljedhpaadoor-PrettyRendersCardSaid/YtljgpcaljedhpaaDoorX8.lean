/- Render, where no text grows too long. -/
import Derived.Test.YtljgpcaljedhpaaDoorX7
import Derived.Defers
import Derived.Recover
import Derived.Laws.BytesArg
namespace Go.Proofs.YtljgpcaljedhpaaDoor
open Go.RowKit

/-- The deferred closure of a frame that returns: recover finds nothing. -/
theorem catch_idle (p q : Addr) (w : World) :
    CallsD Tryd.prog 29 #[.pointer (some p), .pointer (some q)] .returning w fun e u' w' => e = .returned (.tuple #[]) ∧ u' = .returning ∧ w' = w := by
  refine callsD_of_wpS Tryd.func29 rfl fun c₀ cs hu => ?_
  apply wpS_seq
  apply wpS_region
  simp [wpOpsS, go_sem, recoverD, hu, Tryd.ntmps29, Exit.thenS]
  apply wpS_seq
  apply wpS_region
  simp [wpOpsS, go_sem, Exit.thenS]
  refine wpS_cond (t := false) (by simp [Act.eval, Array.replicate]) ?_
  simp only [Bool.false_eq_true, if_false]
  refine wpS_of_wp (wp_skip ?_)
  cases c₀
  simp_all [bodyPostS, results, Tryd.results29]

theorem stepsP_cons {W M : Int} {x : Op} {r : List Op} {s s' : St} (h : stepsP W M (x :: r) s = some s') : ∃ s1, stepP W M s x r = some s1 ∧ stepsP W M r s1 = some s' :=
  Option.bind_eq_some_iff.1 h

theorem heap_alloc2 (w : World) (o1 o2 : Obj) : ((w.alloc o1).alloc o2).heap[w.heap.size + 1]? = some o2 := by
  have := heap_alloc_new (w.alloc o1) o2
  simpa using this

/-- A row of bytes, made a string. -/
theorem own_text {w : World} {base : Nat} {v : Value} {l : List UInt8} (h : w.ownsRow base 5 1 v l.length (bs l)) : (convert 22 9 v).run Tryd.prog w = .ok (.string ⟨l.toArray⟩) w := by
  have e : strOfNums (l.map fun b => (b.toNat : Int)) = ⟨l.toArray⟩ := by
    unfold strOfNums
    congr 2
    rw [List.map_map]
    conv => rhs; rw [← List.map_id l]
    apply List.map_congr_left
    intro b _
    simp
  rcases h.2 with ⟨rfl, hn⟩ | ⟨g, cap, cur, rfl, _⟩
  · obtain rfl : l = [] := List.eq_nil_of_length_eq_zero hn
    exact run_convert_bytes_nil w 22 5 Tryd.underlying22 Tryd.underlying5 0 0 9 Tryd.underlying9
  · rw [← e]
    refine run_convert_bytes_arg w 22 5 Tryd.underlying22 Tryd.underlying5 g 0 l.length cap _ (by simp) (fun i hi => ?_) 9 Tryd.underlying9
    have hc := h.cells (g := g) rfl i (.int .u8 (l[i].toNat)) (by simp [bs, hi])
    rw [add_plain] at hc
    rw [Nat.zero_add, hc]
    simp [List.getD_eq_getElem?_getD, hi]

/-- Where no text grows too long, and Check says nothing: the state at the end. -/
def RenderOk (l : List Op) (W M : Int) (s : St) : Prop := checkP l = 0 ∧ 1 ≤ W ∧ W ≤ 200 ∧ 0 ≤ M ∧ M ≤ 200 ∧ stepsP W M l { out := [], at_ := 0, lines := 0, blocks := [firstBk l W M] } = some s

set_option maxRecDepth 100000 in
set_option maxHeartbeats 8000000 in
theorem render_ok {E : World → Prop} (L : LibC E) (A : Option Addr) (l : List Op) (cap : Nat) (W M : Int) (s : St) (w : World) (hE : E w) (hops : OpsIn w A l) (hcap : l.length ≤ cap) (hl : l.length ≤ 60000) (ht : ∀ x ∈ l, x.text.size ≤ 140737488355328) (hr : RenderOk l W M s) :
    Calls Tryd.prog 9 #[.slice A l.length cap, .int .i64 W, .int .i64 M] w fun e w' => e = .returned (.tuple #[.string ⟨s.out.toArray⟩, .int .i64 0]) ∧ Below w.heap.size w w' := by
  obtain ⟨hck0, hW1, hW2, hM1, hM2, hsteps⟩ := hr
  have hck := fun (W1 : World) (hb : Below w.heap.size w W1) => checkAll_any L A l cap W1 (L.below hE hb) (hops.below hb) hl ht
  unfold CheckSays at hck
  rw [hck0] at hck
  have HCK := Lib.hid hck
  have HST := Lib.hid hsteps
  have HO := Lib.hid hops
  have hmf : ∀ (fn : Fn) (first cap : Array Value) (w : World), (Instr.makeFunc fn first cap).run Tryd.prog w = .ok (.func fn first cap) w := fun _ _ _ _ => rfl
  clear hck hsteps hops ht
  go_enter_defers Tryd.func9, Tryd.ntmps9
  go_wp2_with (go_at_call 17; refine (HCK.out _ ((new1 w _).alloc (by simp) _)).mono ?_; rintro e w1 ⟨rfl, hb1⟩)
  have hbw : Below w.heap.size w w1 := chain ((new1 w _).alloc (by simp) _) hb1
  have hE1 := L.below hE hbw
  have hO1 := HO.out.below hbw
  have hn0 : w1.heap[w.heap.size]? = some (.cells #[.string ⟨#[]⟩] 9 (0, 0)) := blk_below (by rw [Below.heap_alloc _ _ _ (by simp)]; exact heap_alloc_new w _) hb1
  have hn1 : w1.heap[w.heap.size + 1]? = some (.cells #[.int .i64 0] 28 (0, 0)) := blk_below (by have := heap_alloc_new (w.alloc (.cells #[.string ⟨#[]⟩] 9)) (.cells #[.int .i64 0] 28); simpa using this) hb1
  obtain ⟨hval, hfew, hsum, hgo⟩ := check_fine hck0
  have hok : ∀ x ∈ l, okOp x ∧ x.text.size ≤ 20000 := fun x hx => ⟨(hval x hx).okOp, Nat.le_trans (bytesSum_mem hx) hsum⟩
  obtain ⟨G, hG⟩ : ∃ G, w1.heap.size = G := ⟨_, rfl⟩
  obtain ⟨Z, hZ⟩ : ∃ Z, (w1.alloc (.cells #[.slice A l.length cap, .int .i64 W, .int .i64 M, .slice none 0 0, .int .i64 0, .int .i64 0, .slice none 0 0] 65)).alloc (.cells #[.int .i64 0, .int .i64 0, .int .i64 0, .string ⟨#[]⟩, .bool false, .bool (decide (W ≤ M)), .bool false, .int .i64 0, .bool false] 69) = Z := ⟨_, rfl⟩
  rw [hZ]
  have hzb : Below w1.heap.size w1 Z := by rw [← hZ]; exact (new1 w1 _).alloc (by simp) _
  have hzg : Z.heap[G]? = some (.cells (layC (.slice A l.length cap) W M (.slice none 0 0) 0 0 (.slice none 0 0)) 65 (0, 0)) := by rw [← hZ, ← hG, Below.heap_alloc _ _ _ (by simp)]; exact heap_alloc_new w1 _
  have hzo : Z.heap[G + 1]? = some (.cells (bkC { start := 0, indent := 0, front := 0, pre := ⟨#[]⟩, long := false, miser := decide (W ≤ M), each := false, lines := 0, slong := false }) 69 (0, 0)) := by
    rw [← hZ, ← hG]
    exact heap_alloc2 w1 _ _
  have HG := Lib.hid hG
  obtain ⟨v0, v1, _, _, _, _, _⟩ := lay_cell hzg
  have HN0 := Lib.hid hn0
  have HN1 := Lib.hid hn1
  have HBW := Lib.hid hbw
  have HV := Lib.hid hval
  have HK := Lib.hid hok
  have HGO := Lib.hid hgo
  have HO1 := Lib.hid hO1
  have HWH := Lib.hid (whole_any L G A l cap W Z (L.below hE1 hzb) (hO1.below hzb) v0 v1 hok hfew)
  have HZB := Lib.hid hzb
  have HZG := Lib.hid hzg
  have HZO := Lib.hid hzo
  have hsz : G + 1 < Z.heap.size := blk_lt hzo
  rw [hG]
  clear hb1 hn0 hn1 hG hbw hval hok hgo hzb hzg hzo hO1 hZ v0 v1 hck0 HCK HO
  generalize hRW : wholeP W l 0 = RW at *
  have HRW := Lib.hid hRW
  clear hRW
  refine HWH.out.mono ?_
  rintro e w2 ⟨rfl, hb2⟩
  have hb2' := HZB.out.trans (hb2.mono HZB.out.size)
  have HG2 := Lib.hid (blk_below HZG.out hb2)
  have hzo2 := blk_below HZO.out hb2
  have c4 : w2.cell? ⟨G + 1, 4, none⟩ = some (.bool false) := blk_cell hzo2 4
  have cf := blk_frozen hzo2
  have HZ3 := Lib.hid (blk_set hzo2 4 (.bool (!RW)))
  have HB3 := Lib.hid (hb2'.setCell (p := ⟨G + 1, 4, none⟩) (by show w1.heap.size ≤ G + 1; rw [HG.out]; omega) (.bool (!RW)))
  have HG3 := Lib.hid (blk_far HG2.out (p := ⟨G + 1, 4, none⟩) (by show G ≠ G + 1; omega) (.bool (!RW)))
  obtain ⟨v0, v1, _, _, _, _, _⟩ := lay_cell HG3.out
  have HFI := Lib.hid (fits_rep L G A l cap 0 W 0 (w2.setCell ⟨G + 1, 4, none⟩ (.bool (!RW))) (L.below hE1 HB3.out) (HO1.out.below HB3.out) v0 v1 HK.out (Nat.zero_le _) hfew hcap (by decide) (by decide) 0 rfl (w2.setCell ⟨G + 1, 4, none⟩ (.bool (!RW))) (Below.refl _ _))
  clear hb2 hb2' hzo2 v0 v1 HWH HZB HZG HZO HG2
  generalize hRF : fitsP W (l.drop 0) 0 0 = RF at *
  have HRF := Lib.hid hRF
  clear hRF
  go_wp2_with (go_at_call 31; refine HFI.out.mono ?_; rintro e w3 ⟨rfl, hb3⟩; have HO4 := Lib.hid (blk_below HZ3.out hb3); have HG4 := Lib.hid (blk_below HG3.out hb3); have HB4 := Lib.hid (HB3.out.trans (hb3.mono HB3.out.size)); have d8 : w3.cell? ⟨G + 1, 8, none⟩ = some (.bool false) := blk_cell HO4.out 8; have df := blk_frozen HO4.out; obtain ⟨_, _, _, _, _, _, d6⟩ := lay_cell HG4.out; have dg := blk_frozen HG4.out; have HSZ := Lib.hid (Nat.lt_of_lt_of_le (show G + 1 < w3.heap.size from blk_lt HO4.out) (Nat.le_refl _)); have HG5 := fun o => Lib.hid (show ((w3.setCell ⟨G + 1, 8, none⟩ (.bool (!RF))).alloc o).heap[G]? = _ from (Below.heap_alloc _ _ _ (by simp; have := HSZ.out; omega)).trans (blk_far HG4.out (p := ⟨G + 1, 8, none⟩) (by show G ≠ G + 1; omega) (.bool (!RF)))); have k6 : ∀ o, ((w3.setCell ⟨G + 1, 8, none⟩ (.bool (!RF))).alloc o).cell? ⟨G, 6, none⟩ = some (.slice none 0 0) := fun o => blk_cell (HG5 o).out 6; have kf : ∀ o i, ((w3.setCell ⟨G + 1, 8, none⟩ (.bool (!RF))).alloc o).frozen? ⟨G, i, none⟩ = false := fun o => blk_frozen (HG5 o).out; clear hb3)
  obtain ⟨z, hz⟩ : ∃ z, ((w3.setCell ⟨G + 1, 8, none⟩ (.bool (!RF))).alloc (.cells #[.pointer (some ⟨G + 1, 0, none⟩)] 67)).setCell ⟨G, 6, none⟩ (.slice (some ⟨w3.heap.size, 0, none⟩) 1 1) = z := ⟨_, rfl⟩
  rw [hz]
  have hrep : Rep w1 G (.slice A l.length cap) W M (.slice (some ⟨w3.heap.size, 0, none⟩) 1 1) [G + 1] { out := [], at_ := 0, lines := 0, blocks := [firstBk l W M] } z := by
    rw [← hz]
    have hG := HG.out
    have hs := HSZ.out
    have hs0 : w1.heap.size ≤ w3.heap.size := HB4.out.size
    have hal : ∀ (o : Obj), ((w3.setCell ⟨G + 1, 8, none⟩ (.bool (!RF))).alloc o).heap[w3.heap.size]? = some o := fun o => by
      have := heap_alloc_new (w3.setCell ⟨G + 1, 8, none⟩ (.bool (!RF))) o
      simpa using this
    have ho5 : ∀ (o : Obj), ((w3.setCell ⟨G + 1, 8, none⟩ (.bool (!RF))).alloc o).heap[G + 1]? = some (.cells (bkC (firstBk l W M)) 69 (0, 0)) := fun o => by
      rw [Below.heap_alloc _ _ _ (by simp; omega), blk_set HO4.out 8]
      unfold firstBk
      rw [HRW.out, show fitsP W l 0 0 = RF from HRF.out]
      rfl
    refine ⟨((((HB4.out.setCell (p := ⟨G + 1, 8, none⟩) (by show w1.heap.size ≤ G + 1; omega) _).alloc (by simp; omega) _).setCell (p := ⟨G, 6, none⟩) (by show w1.heap.size ≤ G; omega) _)), by omega, ⟨_, lay6 (HG5 _).out _, World.ownsRow_nil _ _ _ _⟩, ?_, ?_, by simp, rfl⟩
    · refine own_set (p := ⟨G, 6, none⟩) ⟨rfl, .inr ⟨w3.heap.size, 1, _, rfl, hs0, hal _, Nat.le_refl _, by decide, rfl, rfl⟩⟩ ?_ _
      show some G ≠ some w3.heap.size
      intro e
      injection e with e
      omega
    · intro j p b hj hb
      match j, hj, hb with
      | 0, hj, hb =>
        obtain rfl : G + 1 = p := by simpa using hj
        obtain rfl : firstBk l W M = b := by simpa using hb
        exact ⟨by omega, blk_far (ho5 _) (p := ⟨G, 6, none⟩) (by show G + 1 ≠ G; omega) _⟩
      | j + 1, hj, hb => simp at hj
  have hgood : Good { out := [], at_ := 0, lines := 0, blocks := [firstBk l W M] } := by
    refine ⟨by simp, by simp, by simp, rfl, fun b hb => ?_⟩
    obtain rfl := List.mem_singleton.1 hb
    refine ⟨by simp [firstBk], by simp [firstBk], by simp [firstBk], by simp [firstBk], by simp [firstBk], by simp [firstBk], Nat.zero_le _, by simp [firstBk], by simp [firstBk]⟩
  have HREP : Hid (RepE w1 G (.slice A l.length cap) W M { out := [], at_ := 0, lines := 0, blocks := [firstBk l W M] } z) := ⟨_, _, hrep⟩
  have HGOOD := Lib.hid hgood
  clear hrep hgood hz HG5 k6 kf HO4 HG4 HB4 HSZ HRW HRF d8 df d6 dg HFI HZ3 HB3 HG3
  go_loopw [61] (fun v61 w' => ∃ (j : Nat) (st : St), v61 = .int .i64 j ∧ j ≤ l.length ∧ Hid (stepsP W M (l.drop j) st = some s) ∧ Hid (RepE w1 G (.slice A l.length cap) W M st w') ∧ Hid (Good st) ∧ Hid (0 < st.blocks.length ∧ st.blocks.length ≤ 101) ∧ Hid (checkGo (l.drop j) ((st.blocks.length - 1 : Nat) : Int) = 0)) (fun v61 _ => l.length - (intOf v61).toNat)
  case atStart => exact ⟨0, _, rfl, by omega, HST, HREP, HGOOD, Lib.hid ⟨by simp, by simp⟩, HGO⟩
  case round =>
    obtain ⟨j, st, rfl, hj, HS, HR, HGD, HBL, HC⟩ := hrel
    by_cases hlt : j < l.length
    · obtain ⟨x, hx⟩ : ∃ x, l[j]? = some x := ⟨_, List.getElem?_eq_getElem hlt⟩
      have hdr : l.drop j = x :: l.drop (j + 1) := by
        rw [List.drop_eq_getElem_cons hlt]
        rw [List.getElem?_eq_getElem hlt] at hx
        injection hx with hx
        rw [hx]
      have hS := HS.out
      rw [hdr] at hS
      obtain ⟨st', hS1, hS2⟩ := stepsP_cons hS
      obtain ⟨bv, ps, hR⟩ := HR.out
      have hbl := HBL.out
      have hpl := hR.len
      have hv := HV.out _ (List.mem_of_getElem? hx)
      have hstep := step_any L w1 G A l cap W M bv ps st st' j x _ ⟨hE1, HO1.out, hR, HGD.out, HK.out, hfew, hcap, hx, by omega, by omega⟩ hv (by omega) (by omega) hS1
      obtain ⟨hg', hd'⟩ := step_good HGD.out hv (HK.out _ (List.mem_of_getElem? hx)).2 (List.length_pos_iff.1 hbl.1) hS1
      have hC := HC.out
      rw [hdr, checkGo_cons] at hC
      have HSTEP := Lib.hid hstep
      have HS' := Lib.hid hS2
      have HG' := Lib.hid hg'
      have hC1 : checkGo (l.drop (j + 1)) (deeper x ((st.blocks.length - 1 : Nat) : Int)) = 0 ∧ 0 ≤ deeper x ((st.blocks.length - 1 : Nat) : Int) ∧ deeper x ((st.blocks.length - 1 : Nat) : Int) ≤ 100 := by
        split at hC
        · rename_i hne; exact absurd hC hne
        · split at hC
          · exact absurd hC (by decide)
          · rename_i _ h2; exact ⟨hC, by omega, by omega⟩
      have hdd : deeper x ((st.blocks.length - 1 : Nat) : Int) = deeper x st.blocks.length - 1 := by
        unfold deeper
        split
        · omega
        · split <;> omega
      have HC' : Hid (checkGo (l.drop (j + 1)) ((st'.blocks.length - 1 : Nat) : Int) = 0) := by
        have := hC1.1
        rw [show ((st'.blocks.length - 1 : Nat) : Int) = deeper x ((st.blocks.length - 1 : Nat) : Int) by omega]
        exact this
      have HBL' : Hid (0 < st'.blocks.length ∧ st'.blocks.length ≤ 101) := ⟨by omega, by omega⟩
      clear hdr hS hS1 hS2 hR hbl hpl hv hstep hg' hd' hC hC1 hdd
      go_wp2_with (go_at_call 32; refine HSTEP.out.mono ?_; rintro e w4 ⟨rfl, hr4⟩; have HR4 := Lib.hid hr4; clear hr4)
      go_roundw
      case rel => exact ⟨j + 1, st', by go_num, by omega, HS', HR4, HG', HBL', HC'⟩
      case measure => simp [intOf]; omega
    · have hjl : j = l.length := by omega
      have hS := HS.out
      rw [hjl, List.drop_length] at hS
      obtain rfl : st = s := Option.some.inj hS
      obtain ⟨bv, ps, hR⟩ := HR.out
      obtain ⟨outv, hrow, how⟩ := hR.row
      obtain ⟨_, _, _, f3, _, _, _⟩ := lay_cell hrow
      clear hS HS HC
      have hcv := own_text how
      obtain ⟨OA, OC, rfl⟩ := own_slice how
      have m0 := blk_below HN0.out hR.below
      have m1 := blk_below HN1.out hR.below
      have m1' := fun u => blk_far m1 (p := ⟨w.heap.size, 0, none⟩) (by show w.heap.size + 1 ≠ w.heap.size; omega) u
      have p0 : wr.cell? ⟨w.heap.size, 0, none⟩ = some (.string ⟨#[]⟩) := blk_cell m0 0
      have pf0 := blk_frozen m0
      have p1 : ∀ u, (wr.setCell ⟨w.heap.size, 0, none⟩ u).cell? ⟨w.heap.size + 1, 0, none⟩ = some (.int .i64 0) := fun u => blk_cell (m1' u) 0
      have pf1 := fun u => blk_frozen (m1' u)
      have HB9 := Lib.hid (HBW.out.trans (hR.below.mono HBW.out.size))
      have M0 := Lib.hid m0
      have M1 := Lib.hid m1'
      clear m0 m1 m1' hrow how hR
      go_wp2_with fail
      refine leaves_cons (f := 29) (args := #[.pointer (some ⟨w.heap.size, 0, none⟩), .pointer (some ⟨w.heap.size + 1, 0, none⟩)]) (by simp) (by simp [go_sem]) ?_
      refine (catch_idle _ _ _).mono ?_
      rintro e u' w'' ⟨rfl, rfl, rfl⟩
      have hr0 : ((wr.setCell ⟨w.heap.size, 0, none⟩ (.string ⟨st.out.toArray⟩)).setCell ⟨w.heap.size + 1, 0, none⟩ (.int .i64 0)).cell? ⟨w.heap.size, 0, none⟩ = some (.string ⟨st.out.toArray⟩) :=
        blk_cell (blk_far (blk_set M0.out 0 (.string ⟨st.out.toArray⟩)) (p := ⟨w.heap.size + 1, 0, none⟩) (by show w.heap.size ≠ w.heap.size + 1; omega) (.int .i64 0)) 0
      have hr1 : ((wr.setCell ⟨w.heap.size, 0, none⟩ (.string ⟨st.out.toArray⟩)).setCell ⟨w.heap.size + 1, 0, none⟩ (.int .i64 0)).cell? ⟨w.heap.size + 1, 0, none⟩ = some (.int .i64 0) :=
        blk_cell (blk_set (M1.out (.string ⟨st.out.toArray⟩)) 0 (.int .i64 0)) 0
      simp [Leaves, settle, results, Tryd.results9, go_sem, hr0, hr1]
      exact (HB9.out.setCell (p := ⟨w.heap.size, 0, none⟩) (Nat.le_refl _) _).setCell (p := ⟨w.heap.size + 1, 0, none⟩) (Nat.le_succ _) _
end Go.Proofs.YtljgpcaljedhpaaDoor
