/- put, where the text grows too long: it panics. -/
/- broken, where the text grows too long: it panics. -/
import Derived.Test.YtljgpcaljedhpaaDoorX9
import Derived.Test.YtljgpcaljedhpaaDoorQ3
namespace Go.Proofs.YtljgpcaljedhpaaDoor
open Go.RowKit

/-- The panic of a text that is too long. -/
def LargeSays (w0 : World) (e : Ending) (w' : World) : Prop := e = .panicked [{ v := .iface 28 (.int .i64 14), recovered := false }] ∧ Below w0.heap.size w0 w'

set_option maxRecDepth 100000 in
set_option maxHeartbeats 1000000 in
theorem put_over {E : World → Prop} (L : LibC E) (w0 : World) (g : Nat) (ov : Value) (W M : Int) (bv : Value) (ps : List Nat) (s : St) (t : ByteArray) (w : World) (h : Rep w0 g ov W M bv ps s w)
    (hk : 100000 < (putRaw s t).out.length) (hs : s.out.length ≤ 100000) (htz : t.size ≤ 2000000) (c0 : 0 ≤ s.at_) (c1 : s.at_ ≤ 274877906944) (n0 : 0 ≤ s.lines) (n1 : s.lines ≤ 274877906944) :
    Calls Tryd.prog 52 #[.pointer (some ⟨g, 0, none⟩), .string t] w (LargeSays w0) := by
  obtain ⟨i0, hi0, hz0, hz1, hz2⟩ := info_parts info5
  obtain ⟨outv, hblk, hown⟩ := h.row
  have hlen : 100000 < s.out.length + t.size := by simpa [putRaw] using hk
  have hcol := fun W => column_any L s.at_ t W c0 (by omega) (by omega)
  have hcc : Lib.countByte t.data.toList 10 ≤ t.size := List.count_le_length
  have H0 := Lib.hid hi0
  have H1 := Lib.hid hz0
  have H2 := Lib.hid hz1
  have H3 := Lib.hid hz2
  have e3 : w.cell? ⟨g, 3, none⟩ = some outv := blk_cell hblk 3
  have hne := own_ne hown hblk (by decide)
  have hbase : w0.heap.size ≤ w.heap.size := h.below.size
  have HC := Lib.hid hcol
  have HB := Lib.hid hblk
  have HO := Lib.hid hown
  have hbytes : s.out.length + t.size ≤ 140737488355328 := by omega
  have hmax : s.out.length + t.size ≤ maxLen := by unfold maxLen; omega
  have HX := Lib.hid hmax
  have HY := Lib.hid hbytes
  have HH := Lib.hid h
  have HN := Lib.hid hne
  have hlen' : (100000 : Int) < ((s.out.length + t.size : Nat) : Int) := by omega
  clear hcol hblk hown hmax hbytes hlen hk h hne hz0 hz1 hz2 hi0
  go_enter Tryd.func52, Tryd.ntmps52
  go_wp2_with (at_builtin; refine Lib.wpList_append_own_string _ rfl _ _ _ _ rfl w0.heap.size 5 i0 Tryd.underlying22 Tryd.underlying9 H0.out H1.out H2.out H3.out outv _ _ rfl HO.out t rfl HX.out HY.out hbase ?_; intro v1 w1 hown1 hg1 _; obtain ⟨A1, cap1, rfl⟩ := own_slice hown1; have HB1 := Lib.hid (blk_grown HB.out hg1 HN.out); have HO1 := Lib.hid hown1; have HG1 := Lib.hid hg1; obtain ⟨f0, f1, f2, f3, f4, f5, f6⟩ := lay_cell HB1.out; have ff := blk_frozen HB1.out; clear hown1 hg1 e3)
  refine (HC.out _).mono ?_
  rintro e w2 ⟨rfl, hb2⟩
  have HB2 := Lib.hid (blk_below (lay3 HB1.out _) hb2)
  have HZ2 := Lib.hid hb2
  clear f0 f1 f2 f3 f4 f5 f6 ff hb2
  obtain ⟨f0, f1, f2, f3, f4, f5, f6⟩ := lay_cell HB2.out
  have ff := blk_frozen HB2.out
  go_wp2_with fail
  have HB3 := Lib.hid (lay4 HB2.out (colP s.at_ t))
  clear f0 f1 f2 f3 f4 f5 f6 ff
  obtain ⟨W3, hW3⟩ : ∃ W3, w2.setCell ⟨g, 4, none⟩ (.int .i64 (colP s.at_ t)) = W3 := ⟨_, rfl⟩
  rw [hW3] at HB3 ⊢
  have HW3 := Lib.hid hW3
  clear hW3
  obtain ⟨f0, f1, f2, f3, f4, f5, f6⟩ := lay_cell HB3.out
  have ff := blk_frozen HB3.out
  clear f0 f1 f2 f4 f6
  have cc0 : (0 : Int) ≤ (Lib.countByte t.data.toList 10 : Int) := Int.natCast_nonneg _
  have cc1 : (Lib.countByte t.data.toList 10 : Int) ≤ 2000000 := by omega
  go_region_with ((go_at_call 10; refine (L.cnt t _).mono ?_; rintro e w' ⟨rfl, rfl⟩))
  all_goals
    go_wp2_with fail
    exact ⟨rfl, rfl, by
      have hW := HW3.out
      subst hW
      exact ((rep_put HH.out HO.out HG1.out HO1.out HB1.out HZ2.out _ _ (putRaw s t) rfl rfl rfl rfl).drew).below⟩
end Go.Proofs.YtljgpcaljedhpaaDoor
namespace Go.Proofs.YtljgpcaljedhpaaDoor
open Go.RowKit

set_option maxRecDepth 100000 in
set_option maxHeartbeats 4000000 in
theorem broken_over {E : World → Prop} (L : LibC E) (w0 : World) (g p k : Nat) (ov : Value) (W M : Int) (bv : Value) (ps : List Nat) (s : St) (top : Bk) (w : World) (h : Rep w0 g ov W M bv ps s w)
    (hg : Good s) (hp : ps[k]? = some p) (htop : s.blocks[k]? = some top) (hs : brokenP top s = none) (hpsl : ps.length ≤ 1000000) :
    Calls Tryd.prog 54 #[.pointer (some ⟨g, 0, none⟩), .pointer (some ⟨p, 0, none⟩)] w (LargeSays w0) := by
  have HR := Lib.hid h
  unfold brokenP at hs
  have hpl : 0 < ps.length := by have := (List.getElem?_eq_some_iff.1 hp).1; omega
  obtain ⟨rb, capb, hbv, _, _⟩ := h.bl.form hpl
  have HBV := Lib.hid hbv
  have HNL := Lib.hid hs
  have HG := Lib.hid hg
  have HP0 := Lib.hid hp
  have HT0 := Lib.hid htop
  have hbt := hg.bk top (List.mem_of_getElem? htop)
  have t0 := hbt.i0
  have t1 := hbt.i1
  have hlen := hg.len
  have hsb : ps.length = s.blocks.length := h.len
  have HSB := Lib.hid hsb
  clear hsb
  clear h hbv hs hg hp htop hbt
  go_enter Tryd.func54, Tryd.ntmps54
  go_wp2_with fail
  go_loopg [] s.out.length (fun q w' => ∃ out : List UInt8, out.length = q ∧ out.length ≤ 100000 ∧ Hid (trimR out = trimR s.out) ∧ Hid (Rep w0 g ov W M bv ps { s with out := out } w'))
  case atStart => exact ⟨s.out, rfl, hlen, rfl, HR⟩
  case round =>
    obtain ⟨out, rfl, hlo, HT, HP⟩ := hrel
    rcases List.eq_nil_or_concat out with rfl | ⟨out, c, rfl⟩
    · obtain ⟨outv, hb, hown⟩ := HP.out.row
      obtain ⟨A, cap, rfl⟩ := own_slice hown
      obtain ⟨f0, f1, f2, f3, f4, f5, f6⟩ := lay_cell hb
      simp only [List.length_nil] at f3
      have HQ : Hid (Rep w0 g ov W M bv ps { s with out := trimR s.out } wr) := by have := HP.out; rw [← HT.out]; exact this
      clear f0 f1 f2 f4 f5 f6 hown hb HP HT HR
      go_wp2_with fail
      go_quiet (fail)
      go_wp2_with fail

      have ha00 : 0 ≤ s.at_ := HG.out.a0
      have ha11 : s.at_ ≤ 274877906944 := by have := HG.out.a1; have := HG.out.len; omega
      have hl00 : 0 ≤ s.lines := by have := HG.out.ln; omega
      have hl11 : s.lines ≤ 274877906944 := by have := HG.out.ln; have := HG.out.len; have := List.count_le_length (a := (10 : UInt8)) (l := s.out); omega
      by_cases hl1 : (putRaw { s with out := trimR s.out } ⟨#[10]⟩).out.length ≤ 100000
      · have HG1 := Lib.hid (nl_good HG.out hl1)
        have hnl := HNL.out
        rw [putP_if, if_pos hl1, Option.bind_some] at hnl
        obtain ⟨s1, he1⟩ : ∃ s1, putRaw { s with out := trimR s.out } ⟨#[10]⟩ = s1 := ⟨_, rfl⟩
        have hb10 : s1.blocks = s.blocks := by rw [← he1]; rfl
        rw [he1] at hnl HG1
        rw [hb10] at hnl
        have HX0 : Hid ((prefixesP (s.blocks.drop 0) s1).bind (fun s2 => putP s2 (spB (max (top.indent - s2.at_) 0).toNat)) = none) := Lib.hid hnl
        have HB0 := Lib.hid hb10
        have HE1 := Lib.hid he1
        refine (put_any L w0 g ov W M bv ps { s with out := trimR s.out } ⟨#[10]⟩ _ (HQ.out.drewN nq) hl1 ha00 ha11 hl00 hl11).mono ?_
        rintro e w1 ⟨rfl, hR1⟩
        rw [HE1.out] at hR1
        have HR1 := Lib.hid hR1
        obtain ⟨outv1, hb1, _⟩ := hR1.row
        obtain ⟨f0, f1, f2, f3, f4, f5, f6⟩ := lay_cell hb1
        rw [HBV.out] at f6
        clear f0 f1 f2 f3 f4 f5 hb1 hR1 HQ hnl he1 hb10 HNL hl1
        go_wp2_with fail
        clear f6
        go_loopg [48] ps.length (fun q v48 w' => ∃ (j : Nat) (si : St), j + q = ps.length ∧ v48 = .int .i64 j ∧ Hid ((prefixesP (s.blocks.drop j) si).bind (fun s2 => putP s2 (spB (max (top.indent - s2.at_) 0).toNat)) = none) ∧ Hid (Good si) ∧ Hid (si.blocks = s.blocks) ∧ Hid (Rep w0 g ov W M bv ps si w'))
        case atStart => exact ⟨0, s1, by omega, rfl, HX0, HG1, HB0, HR1⟩
        case round =>
          clear HR1 HX0 HG1 HB0
          obtain ⟨j, si, hj, rfl, HX, HGi, HBi, HRi⟩ := hrel
          have ha0 := HGi.out.a0
          have ha1 : si.at_ ≤ 100000 := by have := HGi.out.a1; have := HGi.out.len; omega
          have hl0 : 0 ≤ si.lines := by have := HGi.out.ln; omega
          have hl1 : si.lines ≤ 274877906944 := by have := HGi.out.ln; have := HGi.out.len; have := List.count_le_length (a := (10 : UInt8)) (l := si.out); omega
          have hoi := HGi.out.len
          obtain ⟨outvi, hbi, _⟩ := HRi.out.row
          obtain ⟨_, _, _, _, f4, _, _⟩ := lay_cell hbi
          by_cases hlt : j < ps.length
          · obtain ⟨pj, hpj⟩ : ∃ pj, ps[j]? = some pj := ⟨_, List.getElem?_eq_getElem hlt⟩
            obtain ⟨bj, hbj⟩ : ∃ bj, s.blocks[j]? = some bj := ⟨_, List.getElem?_eq_getElem (by rw [← HSB.out]; exact hlt)⟩
            have hrow := HRi.out.bl.cells (g := rb) (by rw [HBV.out]; rfl) j (.pointer (some ⟨pj, 0, none⟩)) (by rw [List.getElem?_map, hpj]; rfl)
            rw [add_plain] at hrow
            obtain ⟨_, hblk⟩ := HRi.out.blks j pj bj hpj (by rw [HBi.out]; exact hbj)
            have p2 : wr.cell? ⟨pj, 2, none⟩ = some (.int .i64 bj.front) := blk_cell hblk 2
            have p3 : wr.cell? ⟨pj, 3, none⟩ = some (.string bj.pre) := blk_cell hblk 3
            have p6 : wr.cell? ⟨pj, 6, none⟩ = some (.bool bj.each) := blk_cell hblk 6
            have hbo := HGi.out.bk bj (by rw [HBi.out]; exact List.mem_of_getElem? hbj)
            have hdr : s.blocks.drop j = bj :: s.blocks.drop (j + 1) := by
              rw [List.drop_eq_getElem_cons (by rw [← HSB.out]; exact hlt)]
              rw [List.getElem?_eq_getElem (by rw [← HSB.out]; exact hlt)] at hbj
              injection hbj with hbj
              rw [hbj]
            have hx := HX.out
            rw [hdr] at hx
            unfold prefixesP at hx
            have hj0 : (0 : Int) ≤ (j : Int) := Int.natCast_nonneg _
            have hj1 : (j : Int) < (ps.length : Int) := by omega
            clear hdr HX hblk
            cases he : bj.each
            · rw [he] at p6 hx
              simp only [Bool.false_eq_true, if_false] at hx
              have HX := Lib.hid hx
              clear hx he hbo p2 p3 f4 hbi hpj hbj
              go_wp2_with fail
              go_roundg (ps.length - (j + 1))
              case rel => exact ⟨j + 1, si, by omega, by go_num, HX, HGi, HBi, HRi⟩
              case measure => omega
            · rw [he] at p6 hx
              simp only [if_true] at hx
              obtain ⟨d, hd⟩ : ∃ d : Nat, max (bj.front - si.at_) 0 = d := ⟨(max (bj.front - si.at_) 0).toNat, by omega⟩
              have hd' : (max (bj.front - si.at_) 0).toNat = d := by omega
              rw [hd', putP_if] at hx
              have b0 := hbo.f0
              have b1 := hbo.f1
              have bz := hbo.pr
              have hd1 : d ≤ 1000000 := by omega
              have ew : IntKind.i64.wrap (bj.front - si.at_) = bj.front - si.at_ := IntWalk.i64_in _ (by omega)
              have hszz := spB_size d
              have hsz2 : (spB d ++ bj.pre).size ≤ 2000000 := by rw [ByteArray.size_append]; omega
              clear he hbi hd'
              go_wp2_with fail
              have x2 := ext_cell p2
              have x3 := ext_cell p3
              have x4 := ext_cell f4
              have hrep := fun W => L.rep d W (by omega)
              have hadd := fun W => run_string_add_sum (P := Tryd.prog) W (spB d) bj.pre (by have := hbo.pr; omega)
              have hne := ext_some wr
              have ei2 : (Rep w0 g ov W M bv ps si wr) := HRi.out
              have HRx := Lib.hid (fun x : Ext wr => Rep.bel ei2 x.hb)
              clear hszz hbo p2 p3 p6 f4 hpj hbj ei2 HRi
              by_cases hli : (putRaw si (spB d ++ bj.pre)).out.length ≤ 100000
              · rw [if_pos hli, Option.bind_some] at hx
                have HX := Lib.hid hx
                have HLI := Lib.hid hli
                have HGn : Hid (Good (putRaw si (spB d ++ bj.pre))) := put_good HGi.out hli
                clear hx hli
                by_cases hfa : si.at_ ≤ bj.front
                · have ed : (d : Int) = bj.front - si.at_ := by omega
                  rw [ed] at hrep
                  have HREP := Lib.hid hrep
                  clear hrep ed hd hd1
                  refine wp_region_ext_tail (w0 := wr) 17 (by kernel_rfl) (by kernel_rfl) (Below.refl _ _) ?_
                  simp only [List.take_succ_cons, List.take_zero, List.drop_succ_cons, List.drop_zero]
                  repeat (go_big_quiet_step ((go_at_call 8; exact (HREP.out _).mono fun _ _ ⟨he, h⟩ => ⟨he, ⟨_, (Ext.hb _).trans (h.mono (Ext.hb _).size)⟩, rfl⟩)))
                  refine wpQuiet_nil ?_
                  intro x
                  go_wp2_with (go_at_call 52; (with_reducible refine (put_any L w0 g ov W M bv ps si (spB d ++ bj.pre) _ (HRx.out x) HLI.out ha0 (by omega) hl0 hl1).mono ?_); rintro e w4 ⟨rfl, hR4⟩; have HR4 := Lib.hid hR4; clear hR4)
                  go_roundg (ps.length - (j + 1))
                  case rel => exact ⟨j + 1, putRaw si (spB d ++ bj.pre), by omega, by go_num, HX, HGn, HBi, HR4⟩
                  case measure => omega
                · have ed : (0 : Int) = d := by omega
                  rw [← ed] at hrep
                  have HREP := Lib.hid hrep
                  clear hrep ed hd hd1
                  refine wp_region_ext_tail (w0 := wr) 17 (by kernel_rfl) (by kernel_rfl) (Below.refl _ _) ?_
                  simp only [List.take_succ_cons, List.take_zero, List.drop_succ_cons, List.drop_zero]
                  repeat (go_big_quiet_step ((go_at_call 8; exact (HREP.out _).mono fun _ _ ⟨he, h⟩ => ⟨he, ⟨_, (Ext.hb _).trans (h.mono (Ext.hb _).size)⟩, rfl⟩)))
                  refine wpQuiet_nil ?_
                  intro x
                  go_wp2_with (go_at_call 52; (with_reducible refine (put_any L w0 g ov W M bv ps si (spB d ++ bj.pre) _ (HRx.out x) HLI.out ha0 (by omega) hl0 hl1).mono ?_); rintro e w4 ⟨rfl, hR4⟩; have HR4 := Lib.hid hR4; clear hR4)
                  go_roundg (ps.length - (j + 1))
                  case rel => exact ⟨j + 1, putRaw si (spB d ++ bj.pre), by omega, by go_num, HX, HGn, HBi, HR4⟩
                  case measure => omega
              · have HLI := Lib.hid (show 100000 < (putRaw si (spB d ++ bj.pre)).out.length by omega)
                clear hx hli
                by_cases hfa : si.at_ ≤ bj.front
                · have ed : (d : Int) = bj.front - si.at_ := by omega
                  rw [ed] at hrep
                  have HREP := Lib.hid hrep
                  clear hrep ed hd hd1
                  refine wp_region_ext_tail (w0 := wr) 17 (by kernel_rfl) (by kernel_rfl) (Below.refl _ _) ?_
                  simp only [List.take_succ_cons, List.take_zero, List.drop_succ_cons, List.drop_zero]
                  repeat (go_big_quiet_step ((go_at_call 8; exact (HREP.out _).mono fun _ _ ⟨he, h⟩ => ⟨he, ⟨_, (Ext.hb _).trans (h.mono (Ext.hb _).size)⟩, rfl⟩)))
                  refine wpQuiet_nil ?_
                  intro x
                  go_wp2_with (go_at_call 52; (with_reducible refine (put_over L w0 g ov W M bv ps si (spB d ++ bj.pre) _ (HRx.out x) HLI.out hoi hsz2 ha0 (by omega) hl0 hl1).mono ?_); rintro e w4 ⟨rfl, hR4⟩)
                  exact ⟨rfl, rfl, hR4⟩
                · have ed : (0 : Int) = d := by omega
                  rw [← ed] at hrep
                  have HREP := Lib.hid hrep
                  clear hrep ed hd hd1
                  refine wp_region_ext_tail (w0 := wr) 17 (by kernel_rfl) (by kernel_rfl) (Below.refl _ _) ?_
                  simp only [List.take_succ_cons, List.take_zero, List.drop_succ_cons, List.drop_zero]
                  repeat (go_big_quiet_step ((go_at_call 8; exact (HREP.out _).mono fun _ _ ⟨he, h⟩ => ⟨he, ⟨_, (Ext.hb _).trans (h.mono (Ext.hb _).size)⟩, rfl⟩)))
                  refine wpQuiet_nil ?_
                  intro x
                  go_wp2_with (go_at_call 52; (with_reducible refine (put_over L w0 g ov W M bv ps si (spB d ++ bj.pre) _ (HRx.out x) HLI.out hoi hsz2 ha0 (by omega) hl0 hl1).mono ?_); rintro e w4 ⟨rfl, hR4⟩)
                  exact ⟨rfl, rfl, hR4⟩
          · have hjl : j = ps.length := by omega
            have hx := HX.out
            have hnil : s.blocks.drop j = [] := List.drop_eq_nil_of_le (by rw [← HSB.out]; omega)
            rw [hnil] at hx
            change (some si).bind _ = none at hx
            rw [Option.bind_some, putP_if] at hx
            obtain ⟨_, hblk⟩ := HRi.out.blks k p top HP0.out (by rw [HBi.out]; exact HT0.out)
            have p1 : wr.cell? ⟨p, 1, none⟩ = some (.int .i64 top.indent) := blk_cell hblk 1
            obtain ⟨d, hd⟩ : ∃ d : Nat, max (top.indent - si.at_) 0 = d := ⟨(max (top.indent - si.at_) 0).toNat, by omega⟩
            have hd' : (max (top.indent - si.at_) 0).toNat = d := by omega
            rw [hd'] at hx
            have hli : 100000 < (putRaw si (spB d)).out.length := by
              by_cases hq : (putRaw si (spB d)).out.length ≤ 100000
              · rw [if_pos hq] at hx; cases hx
              · omega
            have HLI := Lib.hid hli
            have hd1 : d ≤ 1000000 := by omega
            have hsz2 : (spB d).size ≤ 2000000 := by rw [spB_size]; omega
            have x1 := ext_cell p1
            have x4 := ext_cell f4
            have hrep := fun W => L.rep d W (by omega)
            have hne := ext_some wr
            have ei2 : (Rep w0 g ov W M bv ps si wr) := HRi.out
            have HRx := Lib.hid (fun x : Ext wr => Rep.bel ei2 x.hb)
            have ew : IntKind.i64.wrap (top.indent - si.at_) = top.indent - si.at_ := IntWalk.i64_in _ (by omega)
            have hd0 : (0 : Int) ≤ (d : Int) := Int.natCast_nonneg _
            clear hx hnil HX HRi HBi HGi hblk p1 f4 hbi ei2 hjl HT0 HP0 hd' hli
            by_cases hfa : si.at_ ≤ top.indent
            · have ed : (d : Int) = top.indent - si.at_ := by omega
              rw [ed] at hrep
              have HREP := Lib.hid hrep
              clear hrep ed hd hd1 hd0
              go_wp2_with fail
              refine wp_region_ext_tail (w0 := wr) 12 (by kernel_rfl) (by kernel_rfl) (Below.refl _ _) ?_
              simp only [List.take_succ_cons, List.take_zero, List.drop_succ_cons, List.drop_zero]
              repeat (go_big_quiet_step ((go_at_call 8; exact (HREP.out _).mono fun _ _ ⟨he, h⟩ => ⟨he, ⟨_, (Ext.hb _).trans (h.mono (Ext.hb _).size)⟩, rfl⟩)))
              refine wpQuiet_nil ?_
              intro x
              go_wp2_with (go_at_call 52; (with_reducible refine (put_over L w0 g ov W M bv ps si (spB d) _ (HRx.out x) HLI.out hoi hsz2 ha0 (by omega) hl0 hl1).mono ?_); rintro e w4 ⟨rfl, hR4⟩)
              exact ⟨rfl, rfl, hR4⟩
            · have ed : (0 : Int) = d := by omega
              rw [← ed] at hrep
              have HREP := Lib.hid hrep
              clear hrep ed hd hd1 hd0
              go_wp2_with fail
              refine wp_region_ext_tail (w0 := wr) 12 (by kernel_rfl) (by kernel_rfl) (Below.refl _ _) ?_
              simp only [List.take_succ_cons, List.take_zero, List.drop_succ_cons, List.drop_zero]
              repeat (go_big_quiet_step ((go_at_call 8; exact (HREP.out _).mono fun _ _ ⟨he, h⟩ => ⟨he, ⟨_, (Ext.hb _).trans (h.mono (Ext.hb _).size)⟩, rfl⟩)))
              refine wpQuiet_nil ?_
              intro x
              go_wp2_with (go_at_call 52; (with_reducible refine (put_over L w0 g ov W M bv ps si (spB d) _ (HRx.out x) HLI.out hoi hsz2 ha0 (by omega) hl0 hl1).mono ?_); rintro e w4 ⟨rfl, hR4⟩)
              exact ⟨rfl, rfl, hR4⟩
      · have hl2 : 100000 < (putRaw { s with out := trimR s.out } ⟨#[10]⟩).out.length := by omega
        refine (put_over L w0 g ov W M bv ps { s with out := trimR s.out } ⟨#[10]⟩ _ (HQ.out.drewN nq) hl2 (by have := trimR_len s.out; show (trimR s.out).length ≤ _; omega) (by decide) ha00 ha11 hl00 hl11).mono ?_
        rintro e w1 ⟨rfl, hR1⟩
        exact ⟨rfl, rfl, hR1⟩
    · simp only [List.concat_eq_append] at *
      obtain ⟨outv, hb, hown⟩ := HP.out.row
      simp only at hown
      obtain ⟨b, cap, rfl, hbl, hblt⟩ := hown.form (by simp)
      have hcell := hown.cells (g := b) rfl out.length (.int .u8 c.toNat) (by simp [bs])
      simp only [List.length_append, List.length_cons, List.length_nil, Nat.zero_add] at *
      obtain ⟨f0, f1, f2, f3, f4, f5, f6⟩ := lay_cell hb
      clear f0 f1 f2 f4 f5 f6
      have hcell' : wr.cell? ⟨b, out.length, none⟩ = some (.int .u8 c.toNat) := by rw [add_plain] at hcell; exact hcell
      have HB := Lib.hid hb
      have HO := Lib.hid hown
      have hcp := own_le hown
      clear hb hown hcell hbl hblt
      by_cases hc : c = 32
      · subst hc
        have HU : Hid (Rep w0 g ov W M bv ps { s with out := out } (wr.setCell ⟨g, 3, none⟩ (.slice (some ⟨b, 0, none⟩) out.length cap))) := rep_cut (s := { s with out := out ++ [32] }) HP.out rfl HB.out HO.out
        have HT' : Hid (trimR out = trimR s.out) := by have := HT.out; rw [trimR_snoc_sp] at this; exact this
        have hn1 : out.length ≤ 100000 := by omega
        obtain ⟨n, hn⟩ : ∃ n, out.length = n := ⟨_, rfl⟩
        rw [hn] at f3 hcell' hcp HU hn1
        have HN := Lib.hid hn
        have ff := blk_frozen HB.out
        clear hn HR HP HT
        have i0 : (0 : Int) ≤ (n : Int) := Int.natCast_nonneg _
        have i1 : (n : Int) < (n : Int) + 1 := by omega
        go_wp2_with fail
        go_quiet (fail)
        go_wp2_with fail
        have ew : IntKind.i64.wrap (n : Int) = (n : Int) := IntWalk.i64_in _ (by omega)
        have i2 : (n : Int) ≤ (cap : Int) := by omega
        go_region
        clear ew
        go_wp2_with fail
        go_roundg n
        case rel => exact ⟨out, HN.out, by rw [HN.out]; exact hn1, HT', HU.out.drewN (nq + 1)⟩
        case measure => have := HN.out; omega
      · have HQ : Hid (Rep w0 g ov W M bv ps { s with out := trimR s.out } wr) := by
          have := HP.out
          rw [← HT.out, trimR_snoc _ _ hc]
          exact this
        have hn1 : out.length ≤ 100000 := by omega
        have hcc : ((c.toNat : Int) == 32) = false := by
          have : c.toNat ≠ 32 := fun h => hc (UInt8.toNat_inj.1 h)
          simp; omega
        obtain ⟨n, hn⟩ : ∃ n, out.length = n := ⟨_, rfl⟩
        rw [hn] at f3 hcell' hcp hn1
        clear hn HR HP HT hc HB HO
        have i0 : (0 : Int) ≤ (n : Int) := Int.natCast_nonneg _
        have i1 : (n : Int) < (n : Int) + 1 := by omega
        go_wp2_with fail
        go_quiet (fail)
        go_wp2_with fail
        have ha00 : 0 ≤ s.at_ := HG.out.a0
        have ha11 : s.at_ ≤ 274877906944 := by have := HG.out.a1; have := HG.out.len; omega
        have hl00 : 0 ≤ s.lines := by have := HG.out.ln; omega
        have hl11 : s.lines ≤ 274877906944 := by have := HG.out.ln; have := HG.out.len; have := List.count_le_length (a := (10 : UInt8)) (l := s.out); omega
        by_cases hl1 : (putRaw { s with out := trimR s.out } ⟨#[10]⟩).out.length ≤ 100000
        · have HG1 := Lib.hid (nl_good HG.out hl1)
          have hnl := HNL.out
          rw [putP_if, if_pos hl1, Option.bind_some] at hnl
          obtain ⟨s1, he1⟩ : ∃ s1, putRaw { s with out := trimR s.out } ⟨#[10]⟩ = s1 := ⟨_, rfl⟩
          have hb10 : s1.blocks = s.blocks := by rw [← he1]; rfl
          rw [he1] at hnl HG1
          rw [hb10] at hnl
          have HX0 : Hid ((prefixesP (s.blocks.drop 0) s1).bind (fun s2 => putP s2 (spB (max (top.indent - s2.at_) 0).toNat)) = none) := Lib.hid hnl
          have HB0 := Lib.hid hb10
          have HE1 := Lib.hid he1
          refine (put_any L w0 g ov W M bv ps { s with out := trimR s.out } ⟨#[10]⟩ _ (HQ.out.drewN nq) hl1 ha00 ha11 hl00 hl11).mono ?_
          rintro e w1 ⟨rfl, hR1⟩
          rw [HE1.out] at hR1
          have HR1 := Lib.hid hR1
          obtain ⟨outv1, hb1, _⟩ := hR1.row
          obtain ⟨f0, f1, f2, f3, f4, f5, f6⟩ := lay_cell hb1
          rw [HBV.out] at f6
          clear f0 f1 f2 f3 f4 f5 hb1 hR1 HQ hnl he1 hb10 HNL hl1
          go_wp2_with fail
          clear f6
          go_loopg [48] ps.length (fun q v48 w' => ∃ (j : Nat) (si : St), j + q = ps.length ∧ v48 = .int .i64 j ∧ Hid ((prefixesP (s.blocks.drop j) si).bind (fun s2 => putP s2 (spB (max (top.indent - s2.at_) 0).toNat)) = none) ∧ Hid (Good si) ∧ Hid (si.blocks = s.blocks) ∧ Hid (Rep w0 g ov W M bv ps si w'))
          case atStart => exact ⟨0, s1, by omega, rfl, HX0, HG1, HB0, HR1⟩
          case round =>
            clear HR1 HX0 HG1 HB0
            obtain ⟨j, si, hj, rfl, HX, HGi, HBi, HRi⟩ := hrel
            have ha0 := HGi.out.a0
            have ha1 : si.at_ ≤ 100000 := by have := HGi.out.a1; have := HGi.out.len; omega
            have hl0 : 0 ≤ si.lines := by have := HGi.out.ln; omega
            have hl1 : si.lines ≤ 274877906944 := by have := HGi.out.ln; have := HGi.out.len; have := List.count_le_length (a := (10 : UInt8)) (l := si.out); omega
            have hoi := HGi.out.len
            obtain ⟨outvi, hbi, _⟩ := HRi.out.row
            obtain ⟨_, _, _, _, f4, _, _⟩ := lay_cell hbi
            by_cases hlt : j < ps.length
            · obtain ⟨pj, hpj⟩ : ∃ pj, ps[j]? = some pj := ⟨_, List.getElem?_eq_getElem hlt⟩
              obtain ⟨bj, hbj⟩ : ∃ bj, s.blocks[j]? = some bj := ⟨_, List.getElem?_eq_getElem (by rw [← HSB.out]; exact hlt)⟩
              have hrow := HRi.out.bl.cells (g := rb) (by rw [HBV.out]; rfl) j (.pointer (some ⟨pj, 0, none⟩)) (by rw [List.getElem?_map, hpj]; rfl)
              rw [add_plain] at hrow
              obtain ⟨_, hblk⟩ := HRi.out.blks j pj bj hpj (by rw [HBi.out]; exact hbj)
              have p2 : wr.cell? ⟨pj, 2, none⟩ = some (.int .i64 bj.front) := blk_cell hblk 2
              have p3 : wr.cell? ⟨pj, 3, none⟩ = some (.string bj.pre) := blk_cell hblk 3
              have p6 : wr.cell? ⟨pj, 6, none⟩ = some (.bool bj.each) := blk_cell hblk 6
              have hbo := HGi.out.bk bj (by rw [HBi.out]; exact List.mem_of_getElem? hbj)
              have hdr : s.blocks.drop j = bj :: s.blocks.drop (j + 1) := by
                rw [List.drop_eq_getElem_cons (by rw [← HSB.out]; exact hlt)]
                rw [List.getElem?_eq_getElem (by rw [← HSB.out]; exact hlt)] at hbj
                injection hbj with hbj
                rw [hbj]
              have hx := HX.out
              rw [hdr] at hx
              unfold prefixesP at hx
              have hj0 : (0 : Int) ≤ (j : Int) := Int.natCast_nonneg _
              have hj1 : (j : Int) < (ps.length : Int) := by omega
              clear hdr HX hblk
              cases he : bj.each
              · rw [he] at p6 hx
                simp only [Bool.false_eq_true, if_false] at hx
                have HX := Lib.hid hx
                clear hx he hbo p2 p3 f4 hbi hpj hbj
                go_wp2_with fail
                go_roundg (ps.length - (j + 1))
                case rel => exact ⟨j + 1, si, by omega, by go_num, HX, HGi, HBi, HRi⟩
                case measure => omega
              · rw [he] at p6 hx
                simp only [if_true] at hx
                obtain ⟨d, hd⟩ : ∃ d : Nat, max (bj.front - si.at_) 0 = d := ⟨(max (bj.front - si.at_) 0).toNat, by omega⟩
                have hd' : (max (bj.front - si.at_) 0).toNat = d := by omega
                rw [hd', putP_if] at hx
                have b0 := hbo.f0
                have b1 := hbo.f1
                have bz := hbo.pr
                have hd1 : d ≤ 1000000 := by omega
                have ew : IntKind.i64.wrap (bj.front - si.at_) = bj.front - si.at_ := IntWalk.i64_in _ (by omega)
                have hszz := spB_size d
                have hsz2 : (spB d ++ bj.pre).size ≤ 2000000 := by rw [ByteArray.size_append]; omega
                clear he hbi hd'
                go_wp2_with fail
                have x2 := ext_cell p2
                have x3 := ext_cell p3
                have x4 := ext_cell f4
                have hrep := fun W => L.rep d W (by omega)
                have hadd := fun W => run_string_add_sum (P := Tryd.prog) W (spB d) bj.pre (by have := hbo.pr; omega)
                have hne := ext_some wr
                have ei2 : (Rep w0 g ov W M bv ps si wr) := HRi.out
                have HRx := Lib.hid (fun x : Ext wr => Rep.bel ei2 x.hb)
                clear hszz hbo p2 p3 p6 f4 hpj hbj ei2 HRi
                by_cases hli : (putRaw si (spB d ++ bj.pre)).out.length ≤ 100000
                · rw [if_pos hli, Option.bind_some] at hx
                  have HX := Lib.hid hx
                  have HLI := Lib.hid hli
                  have HGn : Hid (Good (putRaw si (spB d ++ bj.pre))) := put_good HGi.out hli
                  clear hx hli
                  by_cases hfa : si.at_ ≤ bj.front
                  · have ed : (d : Int) = bj.front - si.at_ := by omega
                    rw [ed] at hrep
                    have HREP := Lib.hid hrep
                    clear hrep ed hd hd1
                    refine wp_region_ext_tail (w0 := wr) 17 (by kernel_rfl) (by kernel_rfl) (Below.refl _ _) ?_
                    simp only [List.take_succ_cons, List.take_zero, List.drop_succ_cons, List.drop_zero]
                    repeat (go_big_quiet_step ((go_at_call 8; exact (HREP.out _).mono fun _ _ ⟨he, h⟩ => ⟨he, ⟨_, (Ext.hb _).trans (h.mono (Ext.hb _).size)⟩, rfl⟩)))
                    refine wpQuiet_nil ?_
                    intro x
                    go_wp2_with (go_at_call 52; (with_reducible refine (put_any L w0 g ov W M bv ps si (spB d ++ bj.pre) _ (HRx.out x) HLI.out ha0 (by omega) hl0 hl1).mono ?_); rintro e w4 ⟨rfl, hR4⟩; have HR4 := Lib.hid hR4; clear hR4)
                    go_roundg (ps.length - (j + 1))
                    case rel => exact ⟨j + 1, putRaw si (spB d ++ bj.pre), by omega, by go_num, HX, HGn, HBi, HR4⟩
                    case measure => omega
                  · have ed : (0 : Int) = d := by omega
                    rw [← ed] at hrep
                    have HREP := Lib.hid hrep
                    clear hrep ed hd hd1
                    refine wp_region_ext_tail (w0 := wr) 17 (by kernel_rfl) (by kernel_rfl) (Below.refl _ _) ?_
                    simp only [List.take_succ_cons, List.take_zero, List.drop_succ_cons, List.drop_zero]
                    repeat (go_big_quiet_step ((go_at_call 8; exact (HREP.out _).mono fun _ _ ⟨he, h⟩ => ⟨he, ⟨_, (Ext.hb _).trans (h.mono (Ext.hb _).size)⟩, rfl⟩)))
                    refine wpQuiet_nil ?_
                    intro x
                    go_wp2_with (go_at_call 52; (with_reducible refine (put_any L w0 g ov W M bv ps si (spB d ++ bj.pre) _ (HRx.out x) HLI.out ha0 (by omega) hl0 hl1).mono ?_); rintro e w4 ⟨rfl, hR4⟩; have HR4 := Lib.hid hR4; clear hR4)
                    go_roundg (ps.length - (j + 1))
                    case rel => exact ⟨j + 1, putRaw si (spB d ++ bj.pre), by omega, by go_num, HX, HGn, HBi, HR4⟩
                    case measure => omega
                · have HLI := Lib.hid (show 100000 < (putRaw si (spB d ++ bj.pre)).out.length by omega)
                  clear hx hli
                  by_cases hfa : si.at_ ≤ bj.front
                  · have ed : (d : Int) = bj.front - si.at_ := by omega
                    rw [ed] at hrep
                    have HREP := Lib.hid hrep
                    clear hrep ed hd hd1
                    refine wp_region_ext_tail (w0 := wr) 17 (by kernel_rfl) (by kernel_rfl) (Below.refl _ _) ?_
                    simp only [List.take_succ_cons, List.take_zero, List.drop_succ_cons, List.drop_zero]
                    repeat (go_big_quiet_step ((go_at_call 8; exact (HREP.out _).mono fun _ _ ⟨he, h⟩ => ⟨he, ⟨_, (Ext.hb _).trans (h.mono (Ext.hb _).size)⟩, rfl⟩)))
                    refine wpQuiet_nil ?_
                    intro x
                    go_wp2_with (go_at_call 52; (with_reducible refine (put_over L w0 g ov W M bv ps si (spB d ++ bj.pre) _ (HRx.out x) HLI.out hoi hsz2 ha0 (by omega) hl0 hl1).mono ?_); rintro e w4 ⟨rfl, hR4⟩)
                    exact ⟨rfl, rfl, hR4⟩
                  · have ed : (0 : Int) = d := by omega
                    rw [← ed] at hrep
                    have HREP := Lib.hid hrep
                    clear hrep ed hd hd1
                    refine wp_region_ext_tail (w0 := wr) 17 (by kernel_rfl) (by kernel_rfl) (Below.refl _ _) ?_
                    simp only [List.take_succ_cons, List.take_zero, List.drop_succ_cons, List.drop_zero]
                    repeat (go_big_quiet_step ((go_at_call 8; exact (HREP.out _).mono fun _ _ ⟨he, h⟩ => ⟨he, ⟨_, (Ext.hb _).trans (h.mono (Ext.hb _).size)⟩, rfl⟩)))
                    refine wpQuiet_nil ?_
                    intro x
                    go_wp2_with (go_at_call 52; (with_reducible refine (put_over L w0 g ov W M bv ps si (spB d ++ bj.pre) _ (HRx.out x) HLI.out hoi hsz2 ha0 (by omega) hl0 hl1).mono ?_); rintro e w4 ⟨rfl, hR4⟩)
                    exact ⟨rfl, rfl, hR4⟩
            · have hjl : j = ps.length := by omega
              have hx := HX.out
              have hnil : s.blocks.drop j = [] := List.drop_eq_nil_of_le (by rw [← HSB.out]; omega)
              rw [hnil] at hx
              change (some si).bind _ = none at hx
              rw [Option.bind_some, putP_if] at hx
              obtain ⟨_, hblk⟩ := HRi.out.blks k p top HP0.out (by rw [HBi.out]; exact HT0.out)
              have p1 : wr.cell? ⟨p, 1, none⟩ = some (.int .i64 top.indent) := blk_cell hblk 1
              obtain ⟨d, hd⟩ : ∃ d : Nat, max (top.indent - si.at_) 0 = d := ⟨(max (top.indent - si.at_) 0).toNat, by omega⟩
              have hd' : (max (top.indent - si.at_) 0).toNat = d := by omega
              rw [hd'] at hx
              have hli : 100000 < (putRaw si (spB d)).out.length := by
                by_cases hq : (putRaw si (spB d)).out.length ≤ 100000
                · rw [if_pos hq] at hx; cases hx
                · omega
              have HLI := Lib.hid hli
              have hd1 : d ≤ 1000000 := by omega
              have hsz2 : (spB d).size ≤ 2000000 := by rw [spB_size]; omega
              have x1 := ext_cell p1
              have x4 := ext_cell f4
              have hrep := fun W => L.rep d W (by omega)
              have hne := ext_some wr
              have ei2 : (Rep w0 g ov W M bv ps si wr) := HRi.out
              have HRx := Lib.hid (fun x : Ext wr => Rep.bel ei2 x.hb)
              have ew : IntKind.i64.wrap (top.indent - si.at_) = top.indent - si.at_ := IntWalk.i64_in _ (by omega)
              have hd0 : (0 : Int) ≤ (d : Int) := Int.natCast_nonneg _
              clear hx hnil HX HRi HBi HGi hblk p1 f4 hbi ei2 hjl HT0 HP0 hd' hli
              by_cases hfa : si.at_ ≤ top.indent
              · have ed : (d : Int) = top.indent - si.at_ := by omega
                rw [ed] at hrep
                have HREP := Lib.hid hrep
                clear hrep ed hd hd1 hd0
                go_wp2_with fail
                refine wp_region_ext_tail (w0 := wr) 12 (by kernel_rfl) (by kernel_rfl) (Below.refl _ _) ?_
                simp only [List.take_succ_cons, List.take_zero, List.drop_succ_cons, List.drop_zero]
                repeat (go_big_quiet_step ((go_at_call 8; exact (HREP.out _).mono fun _ _ ⟨he, h⟩ => ⟨he, ⟨_, (Ext.hb _).trans (h.mono (Ext.hb _).size)⟩, rfl⟩)))
                refine wpQuiet_nil ?_
                intro x
                go_wp2_with (go_at_call 52; (with_reducible refine (put_over L w0 g ov W M bv ps si (spB d) _ (HRx.out x) HLI.out hoi hsz2 ha0 (by omega) hl0 hl1).mono ?_); rintro e w4 ⟨rfl, hR4⟩)
                exact ⟨rfl, rfl, hR4⟩
              · have ed : (0 : Int) = d := by omega
                rw [← ed] at hrep
                have HREP := Lib.hid hrep
                clear hrep ed hd hd1 hd0
                go_wp2_with fail
                refine wp_region_ext_tail (w0 := wr) 12 (by kernel_rfl) (by kernel_rfl) (Below.refl _ _) ?_
                simp only [List.take_succ_cons, List.take_zero, List.drop_succ_cons, List.drop_zero]
                repeat (go_big_quiet_step ((go_at_call 8; exact (HREP.out _).mono fun _ _ ⟨he, h⟩ => ⟨he, ⟨_, (Ext.hb _).trans (h.mono (Ext.hb _).size)⟩, rfl⟩)))
                refine wpQuiet_nil ?_
                intro x
                go_wp2_with (go_at_call 52; (with_reducible refine (put_over L w0 g ov W M bv ps si (spB d) _ (HRx.out x) HLI.out hoi hsz2 ha0 (by omega) hl0 hl1).mono ?_); rintro e w4 ⟨rfl, hR4⟩)
                exact ⟨rfl, rfl, hR4⟩
        · have hl2 : 100000 < (putRaw { s with out := trimR s.out } ⟨#[10]⟩).out.length := by omega
          refine (put_over L w0 g ov W M bv ps { s with out := trimR s.out } ⟨#[10]⟩ _ (HQ.out.drewN nq) hl2 (by have := trimR_len s.out; show (trimR s.out).length ≤ _; omega) (by decide) ha00 ha11 hl00 hl11).mono ?_
          rintro e w1 ⟨rfl, hR1⟩
          exact ⟨rfl, rfl, hR1⟩

end Go.Proofs.YtljgpcaljedhpaaDoor
