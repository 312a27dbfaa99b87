/- broken. -/
import Derived.Test.YtljgpcaljedhpaaDoorRegion
namespace Go.Proofs.YtljgpcaljedhpaaDoor
open Go.RowKit

theorem trimR_nil : trimR [] = [] := rfl
theorem trimR_snoc_sp (l : List UInt8) : trimR (l ++ [32]) = trimR l := by simp [trimR]
theorem trimR_snoc (l : List UInt8) (c : UInt8) (h : c ≠ 32) : trimR (l ++ [c]) = l ++ [c] := by simp [trimR, h]
theorem trimR_len (l : List UInt8) : (trimR l).length ≤ l.length := by
  unfold trimR
  rw [List.length_reverse]
  exact Nat.le_trans (List.Sublist.length_le (List.dropWhile_sublist _)) (by simp)

theorem own_le {w : World} {base n m c size : Nat} {e : TypeId} {A : Option Addr} {xs : List Value} (h : w.ownsRow base e size (.slice A m c) n xs) : m ≤ c := by
  rcases h.2 with ⟨h1, _⟩ | ⟨g, cap, cur, h1, _, _, h2, _⟩
  · cases h1; exact Nat.le_refl _
  · cases h1; exact h2
theorem add_plain (g j : Nat) : (⟨g, 0, none⟩ : Addr).add j = ⟨g, j, none⟩ := by unfold Addr.add; split <;> simp_all

/-- A row of bytes, one shorter. -/
theorem rep_cut {w0 : World} {g : Nat} {ov : Value} {W M : Int} {bv : Value} {ps : List Nat} {s : St} {w : World} {b cap : Nat} {out : List UInt8} {c : UInt8} (h : Rep w0 g ov W M bv ps s w) (e : s.out = out ++ [c])
    (hb : w.heap[g]? = some (.cells (layC ov W M (.slice (some ⟨b, 0, none⟩) (out.length + 1) cap) s.at_ s.lines bv) 65 (0, 0))) (ho : w.ownsRow w0.heap.size 5 1 (.slice (some ⟨b, 0, none⟩) (out.length + 1) cap) (out.length + 1) (bs s.out)) :
    Rep w0 g ov W M bv ps { s with out := out } (w.setCell ⟨g, 3, none⟩ (.slice (some ⟨b, 0, none⟩) out.length cap)) := by
  rw [e] at ho
  have hn := own_ne ho hb (by decide)
  have hp : w.ownsRow w0.heap.size 5 1 (.slice (some ⟨b, 0, none⟩) out.length cap) out.length (bs out) := ownsRow_pop (last := [.int .u8 c.toNat]) (by simp [bs]) (by simpa [bs] using ho)
  exact Rest.rep (s := { s with out := out }) (h.rest.set_ h.gb hb 3 _) h.gb (lay3 hb _) (own_set hp (p := ⟨g, 3, none⟩) hn _)

theorem Rep.drewN {w0 : World} {g : Nat} {ov : Value} {W M : Int} {bv : Value} {ps : List Nat} {s : St} {w : World} (h : Rep w0 g ov W M bv ps s w) (n : Nat) : Rep w0 g ov W M bv ps s (w.drewN n) := ⟨bdrewN h.below n, h.gb, h.row, h.bl, h.blks, h.nodup, h.len⟩

theorem Rep.bel {w0 : World} {g : Nat} {ov : Value} {W M : Int} {bv : Value} {ps : List Nat} {s : St} {w w1 : World} (h : Rep w0 g ov W M bv ps s w) (hb : Below w.heap.size w w1) : Rep w0 g ov W M bv ps s w1 := by
  obtain ⟨outv, h1, h2⟩ := h.row
  exact (h.rest.bel hb).rep h.gb (blk_below h1 hb) (own_below h2 hb)

/-- A block's numbers are small. -/
structure BkOk (b : Bk) : Prop where
  s0 : 0 ≤ b.start
  s1 : b.start ≤ 100000
  i0 : 0 ≤ b.indent
  i1 : b.indent ≤ 1000000
  f0 : 0 ≤ b.front
  f1 : b.front ≤ 1000000
  pr : b.pre.size ≤ 20000
  l0 : 0 ≤ b.lines
  l1 : b.lines ≤ 1000000
/-- A state's numbers are small, and its row is not too long. -/
structure Good (s : St) : Prop where
  a0 : 0 ≤ s.at_
  a1 : s.at_ ≤ s.out.length
  len : s.out.length ≤ 100000
  ln : s.lines = (s.out.count 10 : Int)
  bk : ∀ b ∈ s.blocks, BkOk b

theorem data_len (t : ByteArray) : t.data.toList.length = t.size := by rw [Array.length_toList]; rfl
theorem put_len (s : St) (t : ByteArray) : (putRaw s t).out.length = s.out.length + t.size := by simp [putRaw]
theorem put_some {s s' : St} {t : ByteArray} (h : putP s t = some s') : s' = putRaw s t ∧ (putRaw s t).out.length ≤ 100000 := by
  unfold putP at h
  split at h
  · injection h with h; exact ⟨h.symm, by assumption⟩
  · cases h
theorem put_good {s : St} {t : ByteArray} (h : Good s) (hl : (putRaw s t).out.length ≤ 100000) : Good (putRaw s t) := by
  obtain ⟨c0, c1⟩ := colP_bd s.at_ t h.a0
  refine ⟨c0, ?_, hl, ?_, h.bk⟩
  · rw [put_len]
    have := h.a1
    show colP s.at_ t ≤ _
    omega
  · show s.lines + (Lib.countByte t.data.toList 10 : Int) = ((s.out ++ t.data.toList).count 10 : Int)
    rw [List.count_append, h.ln]
    unfold Lib.countByte
    omega
theorem trimR_count (l : List UInt8) : (trimR l).count 10 = l.count 10 := by
  unfold trimR
  rw [List.count_reverse]
  have : ∀ m : List UInt8, (m.dropWhile (· == 32)).count 10 = m.count 10 := fun m => by
    induction m with
    | nil => rfl
    | cons c m ih =>
      rw [List.dropWhile_cons]
      split
      · rename_i h
        have hc : c = 32 := by simpa using h
        subst hc
        rw [ih, List.count_cons_of_ne (by decide)]
      · rfl
  rw [this, List.count_reverse]
theorem colP_nl (c : Int) : colP c ⟨#[10]⟩ = 0 := by
  have h : Lib.lastIndexByte ⟨#[10]⟩ 10 = 0 := by decide
  unfold colP
  rw [h]
  rfl
theorem nl_good {s : St} (h : Good s) (hl : (putRaw { s with out := trimR s.out } ⟨#[10]⟩).out.length ≤ 100000) : Good (putRaw { s with out := trimR s.out } ⟨#[10]⟩) := by
  refine ⟨?_, ?_, hl, ?_, h.bk⟩
  · show 0 ≤ colP s.at_ ⟨#[10]⟩
    rw [colP_nl]; exact Int.le_refl _
  · show colP s.at_ ⟨#[10]⟩ ≤ _
    rw [colP_nl]; exact Int.natCast_nonneg _
  · show s.lines + (Lib.countByte [10] 10 : Int) = ((trimR s.out ++ [10]).count 10 : Int)
    rw [List.count_append, trimR_count, h.ln]
    rfl

set_option maxRecDepth 100000 in
set_option maxHeartbeats 4000000 in
theorem broken_any {E : World → Prop} (L : LibC E) (w0 : World) (g p k : Nat) (ov : Value) (W M : Int) (bv : Value) (ps : List Nat) (s s' : St) (top : Bk) (w : World) (h : Rep w0 g ov W M bv ps s w)
    (hg : Good s) (hp : ps[k]? = some p) (htop : s.blocks[k]? = some top) (hs : brokenP top s = some s') (hpsl : ps.length ≤ 1000000) :
    Calls Tryd.prog 54 #[.pointer (some ⟨g, 0, none⟩), .pointer (some ⟨p, 0, none⟩)] w fun e w' => e = .returned (.tuple #[]) ∧ Rep w0 g ov W M bv ps s' w' := by
  have HR := Lib.hid h
  have hs10 : ∀ s1, putP { s with out := trimR s.out } ⟨#[10]⟩ = some s1 → s1.blocks = s.blocks := fun s1 h1 => by rw [(put_some h1).1]; rfl
  unfold brokenP at hs
  have hpl : 0 < ps.length := by have := (List.getElem?_eq_some_iff.1 hp).1; omega
  obtain ⟨rb, capb, hbv, _, _⟩ := h.bl.form hpl
  have HBV := Lib.hid hbv
  obtain ⟨s1, hs1, hs'⟩ := Option.bind_eq_some_iff.1 hs
  obtain ⟨s2, hs2, hs3⟩ := Option.bind_eq_some_iff.1 hs'
  obtain ⟨e1, hl1⟩ := put_some hs1
  have hg1 : Good s1 := e1 ▸ nl_good hg hl1
  obtain ⟨e3, hl3⟩ := put_some hs3
  have hx0 := hs2
  rw [hs10 s1 hs1] at hx0
  have HX0 : Hid (prefixesP (s.blocks.drop 0) s1 = some s2) := hx0
  have HB0 : Hid (s1.blocks = s.blocks) := hs10 s1 hs1
  clear hx0 hs10
  have HE1 := Lib.hid e1
  have HE3 := Lib.hid e3
  have HL1 := Lib.hid hl1
  have HL3 := Lib.hid hl3
  have HG := Lib.hid hg
  have HG1 := Lib.hid hg1
  have HP0 := Lib.hid hp
  have HT0 := Lib.hid htop
  have hbt := hg.bk top (List.mem_of_getElem? htop)
  have t0 := hbt.i0
  have t1 := hbt.i1
  have hlen := hg.len
  have hsb : ps.length = s.blocks.length := h.len
  have HSB := Lib.hid hsb
  clear hsb
  clear h hbv hs hs' hs1 hs2 hs3 e1 e3 hl1 hl3 hg hg1 hp htop hbt
  go_enter Tryd.func54, Tryd.ntmps54
  go_wp2_with fail
  go_loopg [] s.out.length (fun q w' => ∃ out : List UInt8, out.length = q ∧ out.length ≤ 100000 ∧ Hid (trimR out = trimR s.out) ∧ Hid (Rep w0 g ov W M bv ps { s with out := out } w'))
  case atStart => exact ⟨s.out, rfl, hlen, rfl, HR⟩
  case round =>
    obtain ⟨out, rfl, hlo, HT, HP⟩ := hrel
    rcases List.eq_nil_or_concat out with rfl | ⟨out, c, rfl⟩
    · obtain ⟨outv, hb, hown⟩ := HP.out.row
      obtain ⟨A, cap, rfl⟩ := own_slice hown
      obtain ⟨f0, f1, f2, f3, f4, f5, f6⟩ := lay_cell hb
      simp only [List.length_nil] at f3
      have HQ : Hid (Rep w0 g ov W M bv ps { s with out := trimR s.out } wr) := by have := HP.out; rw [← HT.out]; exact this
      clear f0 f1 f2 f4 f5 f6 hown hb HP HT HR
      go_wp2_with fail
      go_quiet (fail)
      go_wp2_with fail
      refine (put_any L w0 g ov W M bv ps { s with out := trimR s.out } ⟨#[10]⟩ _ (HQ.out.drewN nq) HL1.out HG.out.a0 (by have := HG.out.a1; have := HG.out.len; show s.at_ ≤ _; omega) (by have := HG.out.ln; show 0 ≤ s.lines; omega) (by have := HG.out.ln; have := HG.out.len; have := List.count_le_length (a := (10 : UInt8)) (l := s.out); show s.lines ≤ _; omega)).mono ?_
      rintro e w1 ⟨rfl, hR1⟩
      rw [← HE1.out] at hR1
      have HR1 := Lib.hid hR1
      obtain ⟨outv1, hb1, _⟩ := hR1.row
      obtain ⟨f0, f1, f2, f3, f4, f5, f6⟩ := lay_cell hb1
      rw [HBV.out] at f6
      clear f0 f1 f2 f3 f4 f5 hb1 hR1 HQ
      go_wp2_with fail
      clear f6
      go_loopg [48] ps.length (fun q v48 w' => ∃ (j : Nat) (si : St), j + q = ps.length ∧ v48 = .int .i64 j ∧ Hid (prefixesP (s.blocks.drop j) si = some s2) ∧ Hid (Good si) ∧ Hid (si.blocks = s.blocks) ∧ Hid (Rep w0 g ov W M bv ps si w'))
      case atStart => exact ⟨0, s1, by omega, rfl, HX0, HG1, HB0, HR1⟩
      case round =>
        clear HR1 HX0 HG1 HB0
        obtain ⟨j, si, hj, rfl, HX, HGi, HBi, HRi⟩ := hrel
        have ha0 := HGi.out.a0
        have ha1 : si.at_ ≤ 100000 := by have := HGi.out.a1; have := HGi.out.len; omega
        have hl0 : 0 ≤ si.lines := by have := HGi.out.ln; omega
        have hl1 : si.lines ≤ 274877906944 := by have := HGi.out.ln; have := HGi.out.len; have := List.count_le_length (a := (10 : UInt8)) (l := si.out); omega
        obtain ⟨outvi, hbi, _⟩ := HRi.out.row
        obtain ⟨_, _, _, _, f4, _, _⟩ := lay_cell hbi
        by_cases hlt : j < ps.length
        · obtain ⟨pj, hpj⟩ : ∃ pj, ps[j]? = some pj := ⟨_, List.getElem?_eq_getElem hlt⟩
          obtain ⟨bj, hbj⟩ : ∃ bj, s.blocks[j]? = some bj := ⟨_, List.getElem?_eq_getElem (by rw [← HSB.out]; exact hlt)⟩
          have hrow := HRi.out.bl.cells (g := rb) (by rw [HBV.out]; rfl) j (.pointer (some ⟨pj, 0, none⟩)) (by rw [List.getElem?_map, hpj]; rfl)
          rw [add_plain] at hrow
          obtain ⟨_, hblk⟩ := HRi.out.blks j pj bj hpj (by rw [HBi.out]; exact hbj)
          have p2 : wr.cell? ⟨pj, 2, none⟩ = some (.int .i64 bj.front) := blk_cell hblk 2
          have p3 : wr.cell? ⟨pj, 3, none⟩ = some (.string bj.pre) := blk_cell hblk 3
          have p6 : wr.cell? ⟨pj, 6, none⟩ = some (.bool bj.each) := blk_cell hblk 6
          have hbo := HGi.out.bk bj (by rw [HBi.out]; exact List.mem_of_getElem? hbj)
          have hdr : s.blocks.drop j = bj :: s.blocks.drop (j + 1) := by
            rw [List.drop_eq_getElem_cons (by rw [← HSB.out]; exact hlt)]
            rw [List.getElem?_eq_getElem (by rw [← HSB.out]; exact hlt)] at hbj
            injection hbj with hbj
            rw [hbj]
          have hx := HX.out
          rw [hdr] at hx
          unfold prefixesP at hx
          have hj0 : (0 : Int) ≤ (j : Int) := Int.natCast_nonneg _
          have hj1 : (j : Int) < (ps.length : Int) := by omega
          clear hdr HX hblk
          cases he : bj.each
          · rw [he] at p6 hx
            simp only [Bool.false_eq_true, if_false] at hx
            have HX := Lib.hid hx
            clear hx he hbo p2 p3 f4 hbi hpj hbj
            go_wp2_with fail
            go_roundg (ps.length - (j + 1))
            case rel => exact ⟨j + 1, si, by omega, by go_num, HX, HGi, HBi, HRi⟩
            case measure => omega
          · rw [he] at p6 hx
            simp only [if_true] at hx
            obtain ⟨si', hput, hx'⟩ := Option.bind_eq_some_iff.1 hx
            obtain ⟨ei, hli⟩ := put_some hput
            obtain ⟨d, hd⟩ : ∃ d : Nat, max (bj.front - si.at_) 0 = d := ⟨(max (bj.front - si.at_) 0).toNat, by omega⟩
            have hd' : (max (bj.front - si.at_) 0).toNat = d := by omega
            rw [hd'] at ei hli
            have HX := Lib.hid hx'
            have HEI := Lib.hid ei
            have HLI := Lib.hid hli
            have b0 := hbo.f0
            have b1 := hbo.f1
            have hd1 : d ≤ 1000000 := by omega
            have HGn : Hid (Good (putRaw si (spB d ++ bj.pre))) := put_good HGi.out hli
            have ew : IntKind.i64.wrap (bj.front - si.at_) = bj.front - si.at_ := IntWalk.i64_in _ (by omega)
            clear hx hx' hput ei hli he hbi hd'
            go_wp2_with fail
            have x2 := ext_cell p2
            have x3 := ext_cell p3
            have x4 := ext_cell f4
            have hrep := fun W => L.rep d W (by omega)
            have hszz := spB_size d
            have hadd := fun W => run_string_add_sum (P := Tryd.prog) W (spB d) bj.pre (by have := hbo.pr; omega)
            have hne := ext_some wr
            have ei2 : (Rep w0 g ov W M bv ps si wr) := HRi.out
            have HRx := Lib.hid (fun x : Ext wr => Rep.bel ei2 x.hb)
            clear hszz hbo p2 p3 p6 f4 hpj hbj ei2 HRi
            by_cases hfa : si.at_ ≤ bj.front
            · have ed : (d : Int) = bj.front - si.at_ := by omega
              rw [ed] at hrep
              have HREP := Lib.hid hrep
              clear hrep ed hd hd1
              refine wp_region_ext_tail (w0 := wr) 17 (by kernel_rfl) (by kernel_rfl) (Below.refl _ _) ?_
              simp only [List.take_succ_cons, List.take_zero, List.drop_succ_cons, List.drop_zero]
              repeat (go_big_quiet_step ((go_at_call 8; exact (HREP.out _).mono fun _ _ ⟨he, h⟩ => ⟨he, ⟨_, (Ext.hb _).trans (h.mono (Ext.hb _).size)⟩, rfl⟩)))
              refine wpQuiet_nil ?_
              intro x
              go_wp2_with (go_at_call 52; (with_reducible refine (put_any L w0 g ov W M bv ps si (spB d ++ bj.pre) _ (HRx.out x) HLI.out ha0 (by omega) hl0 hl1).mono ?_); rintro e w4 ⟨rfl, hR4⟩; have HR4 := Lib.hid hR4; clear hR4)
              go_roundg (ps.length - (j + 1))
              case rel => exact ⟨j + 1, putRaw si (spB d ++ bj.pre), by omega, by go_num, by rw [← HEI.out]; exact HX, HGn, HBi, HR4⟩
              case measure => omega
            · have ed : (0 : Int) = d := by omega
              rw [← ed] at hrep
              have HREP := Lib.hid hrep
              clear hrep ed hd hd1
              refine wp_region_ext_tail (w0 := wr) 17 (by kernel_rfl) (by kernel_rfl) (Below.refl _ _) ?_
              simp only [List.take_succ_cons, List.take_zero, List.drop_succ_cons, List.drop_zero]
              repeat (go_big_quiet_step ((go_at_call 8; exact (HREP.out _).mono fun _ _ ⟨he, h⟩ => ⟨he, ⟨_, (Ext.hb _).trans (h.mono (Ext.hb _).size)⟩, rfl⟩)))
              refine wpQuiet_nil ?_
              intro x
              go_wp2_with (go_at_call 52; (with_reducible refine (put_any L w0 g ov W M bv ps si (spB d ++ bj.pre) _ (HRx.out x) HLI.out ha0 (by omega) hl0 hl1).mono ?_); rintro e w4 ⟨rfl, hR4⟩; have HR4 := Lib.hid hR4; clear hR4)
              go_roundg (ps.length - (j + 1))
              case rel => exact ⟨j + 1, putRaw si (spB d ++ bj.pre), by omega, by go_num, by rw [← HEI.out]; exact HX, HGn, HBi, HR4⟩
              case measure => omega
        · have hjl : j = ps.length := by omega
          have hx := HX.out
          have hnil : s.blocks.drop j = [] := List.drop_eq_nil_of_le (by rw [← HSB.out]; omega)
          rw [hnil] at hx
          obtain rfl : si = s2 := Option.some.inj hx
          obtain ⟨_, hblk⟩ := HRi.out.blks k p top HP0.out (by rw [HBi.out]; exact HT0.out)
          have p1 : wr.cell? ⟨p, 1, none⟩ = some (.int .i64 top.indent) := blk_cell hblk 1
          obtain ⟨d, hd⟩ : ∃ d : Nat, max (top.indent - si.at_) 0 = d := ⟨(max (top.indent - si.at_) 0).toNat, by omega⟩
          have hd' : (max (top.indent - si.at_) 0).toNat = d := by omega
          have e3 := HE3.out
          have l3 := HL3.out
          rw [hd'] at e3 l3
          have HL := Lib.hid l3
          have hd1 : d ≤ 1000000 := by omega
          have x1 := ext_cell p1
          have x4 := ext_cell f4
          have hrep := fun W => L.rep d W (by omega)
          have hne := ext_some wr
          have ei2 : (Rep w0 g ov W M bv ps si wr) := HRi.out
          have HRx := Lib.hid (fun x : Ext wr => Rep.bel ei2 x.hb)
          have ew : IntKind.i64.wrap (top.indent - si.at_) = top.indent - si.at_ := IntWalk.i64_in _ (by omega)
          have hd0 : (0 : Int) ≤ (d : Int) := Int.natCast_nonneg _
          subst e3
          clear hx hnil HX HE3 HL3 l3 HRi HBi HGi hblk p1 f4 hbi ei2 hjl HT0 HP0 hd'
          by_cases hfa : si.at_ ≤ top.indent
          · have ed : (d : Int) = top.indent - si.at_ := by omega
            rw [ed] at hrep
            have HREP := Lib.hid hrep
            clear hrep ed hd hd1 hd0
            go_wp2_with fail
            refine wp_region_ext_tail (w0 := wr) 12 (by kernel_rfl) (by kernel_rfl) (Below.refl _ _) ?_
            simp only [List.take_succ_cons, List.take_zero, List.drop_succ_cons, List.drop_zero]
            repeat (go_big_quiet_step ((go_at_call 8; exact (HREP.out _).mono fun _ _ ⟨he, h⟩ => ⟨he, ⟨_, (Ext.hb _).trans (h.mono (Ext.hb _).size)⟩, rfl⟩)))
            refine wpQuiet_nil ?_
            intro x
            go_wp2_with (go_at_call 52; (with_reducible refine (put_any L w0 g ov W M bv ps si (spB d) _ (HRx.out x) HL.out ha0 (by omega) hl0 hl1).mono ?_); rintro e w4 ⟨rfl, hR4⟩; have HR4 := Lib.hid hR4; clear hR4)
            go_end0
            exact ⟨rfl, HR4.out⟩
          · have ed : (0 : Int) = d := by omega
            rw [← ed] at hrep
            have HREP := Lib.hid hrep
            clear hrep ed hd hd1 hd0
            go_wp2_with fail
            refine wp_region_ext_tail (w0 := wr) 12 (by kernel_rfl) (by kernel_rfl) (Below.refl _ _) ?_
            simp only [List.take_succ_cons, List.take_zero, List.drop_succ_cons, List.drop_zero]
            repeat (go_big_quiet_step ((go_at_call 8; exact (HREP.out _).mono fun _ _ ⟨he, h⟩ => ⟨he, ⟨_, (Ext.hb _).trans (h.mono (Ext.hb _).size)⟩, rfl⟩)))
            refine wpQuiet_nil ?_
            intro x
            go_wp2_with (go_at_call 52; (with_reducible refine (put_any L w0 g ov W M bv ps si (spB d) _ (HRx.out x) HL.out ha0 (by omega) hl0 hl1).mono ?_); rintro e w4 ⟨rfl, hR4⟩; have HR4 := Lib.hid hR4; clear hR4)
            go_end0
            exact ⟨rfl, HR4.out⟩
    · simp only [List.concat_eq_append] at *
      obtain ⟨outv, hb, hown⟩ := HP.out.row
      simp only at hown
      obtain ⟨b, cap, rfl, hbl, hblt⟩ := hown.form (by simp)
      have hcell := hown.cells (g := b) rfl out.length (.int .u8 c.toNat) (by simp [bs])
      simp only [List.length_append, List.length_cons, List.length_nil, Nat.zero_add] at *
      obtain ⟨f0, f1, f2, f3, f4, f5, f6⟩ := lay_cell hb
      clear f0 f1 f2 f4 f5 f6
      have hcell' : wr.cell? ⟨b, out.length, none⟩ = some (.int .u8 c.toNat) := by rw [add_plain] at hcell; exact hcell
      have HB := Lib.hid hb
      have HO := Lib.hid hown
      have hcp := own_le hown
      clear hb hown hcell hbl hblt
      by_cases hc : c = 32
      · subst hc
        have HU : Hid (Rep w0 g ov W M bv ps { s with out := out } (wr.setCell ⟨g, 3, none⟩ (.slice (some ⟨b, 0, none⟩) out.length cap))) := rep_cut (s := { s with out := out ++ [32] }) HP.out rfl HB.out HO.out
        have HT' : Hid (trimR out = trimR s.out) := by have := HT.out; rw [trimR_snoc_sp] at this; exact this
        have hn1 : out.length ≤ 100000 := by omega
        obtain ⟨n, hn⟩ : ∃ n, out.length = n := ⟨_, rfl⟩
        rw [hn] at f3 hcell' hcp HU hn1
        have HN := Lib.hid hn
        have ff := blk_frozen HB.out
        clear hn HR HP HT
        have i0 : (0 : Int) ≤ (n : Int) := Int.natCast_nonneg _
        have i1 : (n : Int) < (n : Int) + 1 := by omega
        go_wp2_with fail
        go_quiet (fail)
        go_wp2_with fail
        have ew : IntKind.i64.wrap (n : Int) = (n : Int) := IntWalk.i64_in _ (by omega)
        have i2 : (n : Int) ≤ (cap : Int) := by omega
        go_region
        clear ew
        go_wp2_with fail
        go_roundg n
        case rel => exact ⟨out, HN.out, by rw [HN.out]; exact hn1, HT', HU.out.drewN (nq + 1)⟩
        case measure => have := HN.out; omega
      · have HQ : Hid (Rep w0 g ov W M bv ps { s with out := trimR s.out } wr) := by
          have := HP.out
          rw [← HT.out, trimR_snoc _ _ hc]
          exact this
        have hn1 : out.length ≤ 100000 := by omega
        have hcc : ((c.toNat : Int) == 32) = false := by
          have : c.toNat ≠ 32 := fun h => hc (UInt8.toNat_inj.1 h)
          simp; omega
        obtain ⟨n, hn⟩ : ∃ n, out.length = n := ⟨_, rfl⟩
        rw [hn] at f3 hcell' hcp hn1
        clear hn HR HP HT hc HB HO
        have i0 : (0 : Int) ≤ (n : Int) := Int.natCast_nonneg _
        have i1 : (n : Int) < (n : Int) + 1 := by omega
        go_wp2_with fail
        go_quiet (fail)
        go_wp2_with fail
        refine (put_any L w0 g ov W M bv ps { s with out := trimR s.out } ⟨#[10]⟩ _ (HQ.out.drewN nq) HL1.out HG.out.a0 (by have := HG.out.a1; have := HG.out.len; show s.at_ ≤ _; omega) (by have := HG.out.ln; show 0 ≤ s.lines; omega) (by have := HG.out.ln; have := HG.out.len; have := List.count_le_length (a := (10 : UInt8)) (l := s.out); show s.lines ≤ _; omega)).mono ?_
        rintro e w1 ⟨rfl, hR1⟩
        rw [← HE1.out] at hR1
        have HR1 := Lib.hid hR1
        obtain ⟨outv1, hb1, _⟩ := hR1.row
        obtain ⟨f0, f1, f2, f3, f4, f5, f6⟩ := lay_cell hb1
        rw [HBV.out] at f6
        clear f0 f1 f2 f3 f4 f5 hb1 hR1 HQ
        go_wp2_with fail
        clear f6
        go_loopg [48] ps.length (fun q v48 w' => ∃ (j : Nat) (si : St), j + q = ps.length ∧ v48 = .int .i64 j ∧ Hid (prefixesP (s.blocks.drop j) si = some s2) ∧ Hid (Good si) ∧ Hid (si.blocks = s.blocks) ∧ Hid (Rep w0 g ov W M bv ps si w'))
        case atStart => exact ⟨0, s1, by omega, rfl, HX0, HG1, HB0, HR1⟩
        case round =>
          clear HR1 HX0 HG1 HB0
          obtain ⟨j, si, hj, rfl, HX, HGi, HBi, HRi⟩ := hrel
          have ha0 := HGi.out.a0
          have ha1 : si.at_ ≤ 100000 := by have := HGi.out.a1; have := HGi.out.len; omega
          have hl0 : 0 ≤ si.lines := by have := HGi.out.ln; omega
          have hl1 : si.lines ≤ 274877906944 := by have := HGi.out.ln; have := HGi.out.len; have := List.count_le_length (a := (10 : UInt8)) (l := si.out); omega
          obtain ⟨outvi, hbi, _⟩ := HRi.out.row
          obtain ⟨_, _, _, _, f4, _, _⟩ := lay_cell hbi
          by_cases hlt : j < ps.length
          · obtain ⟨pj, hpj⟩ : ∃ pj, ps[j]? = some pj := ⟨_, List.getElem?_eq_getElem hlt⟩
            obtain ⟨bj, hbj⟩ : ∃ bj, s.blocks[j]? = some bj := ⟨_, List.getElem?_eq_getElem (by rw [← HSB.out]; exact hlt)⟩
            have hrow := HRi.out.bl.cells (g := rb) (by rw [HBV.out]; rfl) j (.pointer (some ⟨pj, 0, none⟩)) (by rw [List.getElem?_map, hpj]; rfl)
            rw [add_plain] at hrow
            obtain ⟨_, hblk⟩ := HRi.out.blks j pj bj hpj (by rw [HBi.out]; exact hbj)
            have p2 : wr.cell? ⟨pj, 2, none⟩ = some (.int .i64 bj.front) := blk_cell hblk 2
            have p3 : wr.cell? ⟨pj, 3, none⟩ = some (.string bj.pre) := blk_cell hblk 3
            have p6 : wr.cell? ⟨pj, 6, none⟩ = some (.bool bj.each) := blk_cell hblk 6
            have hbo := HGi.out.bk bj (by rw [HBi.out]; exact List.mem_of_getElem? hbj)
            have hdr : s.blocks.drop j = bj :: s.blocks.drop (j + 1) := by
              rw [List.drop_eq_getElem_cons (by rw [← HSB.out]; exact hlt)]
              rw [List.getElem?_eq_getElem (by rw [← HSB.out]; exact hlt)] at hbj
              injection hbj with hbj
              rw [hbj]
            have hx := HX.out
            rw [hdr] at hx
            unfold prefixesP at hx
            have hj0 : (0 : Int) ≤ (j : Int) := Int.natCast_nonneg _
            have hj1 : (j : Int) < (ps.length : Int) := by omega
            clear hdr HX hblk
            cases he : bj.each
            · rw [he] at p6 hx
              simp only [Bool.false_eq_true, if_false] at hx
              have HX := Lib.hid hx
              clear hx he hbo p2 p3 f4 hbi hpj hbj
              go_wp2_with fail
              go_roundg (ps.length - (j + 1))
              case rel => exact ⟨j + 1, si, by omega, by go_num, HX, HGi, HBi, HRi⟩
              case measure => omega
            · rw [he] at p6 hx
              simp only [if_true] at hx
              obtain ⟨si', hput, hx'⟩ := Option.bind_eq_some_iff.1 hx
              obtain ⟨ei, hli⟩ := put_some hput
              obtain ⟨d, hd⟩ : ∃ d : Nat, max (bj.front - si.at_) 0 = d := ⟨(max (bj.front - si.at_) 0).toNat, by omega⟩
              have hd' : (max (bj.front - si.at_) 0).toNat = d := by omega
              rw [hd'] at ei hli
              have HX := Lib.hid hx'
              have HEI := Lib.hid ei
              have HLI := Lib.hid hli
              have b0 := hbo.f0
              have b1 := hbo.f1
              have hd1 : d ≤ 1000000 := by omega
              have HGn : Hid (Good (putRaw si (spB d ++ bj.pre))) := put_good HGi.out hli
              have ew : IntKind.i64.wrap (bj.front - si.at_) = bj.front - si.at_ := IntWalk.i64_in _ (by omega)
              clear hx hx' hput ei hli he hbi hd'
              go_wp2_with fail
              have x2 := ext_cell p2
              have x3 := ext_cell p3
              have x4 := ext_cell f4
              have hrep := fun W => L.rep d W (by omega)
              have hszz := spB_size d
              have hadd := fun W => run_string_add_sum (P := Tryd.prog) W (spB d) bj.pre (by have := hbo.pr; omega)
              have hne := ext_some wr
              have ei2 : (Rep w0 g ov W M bv ps si wr) := HRi.out
              have HRx := Lib.hid (fun x : Ext wr => Rep.bel ei2 x.hb)
              clear hszz hbo p2 p3 p6 f4 hpj hbj ei2 HRi
              by_cases hfa : si.at_ ≤ bj.front
              · have ed : (d : Int) = bj.front - si.at_ := by omega
                rw [ed] at hrep
                have HREP := Lib.hid hrep
                clear hrep ed hd hd1
                refine wp_region_ext_tail (w0 := wr) 17 (by kernel_rfl) (by kernel_rfl) (Below.refl _ _) ?_
                simp only [List.take_succ_cons, List.take_zero, List.drop_succ_cons, List.drop_zero]
                repeat (go_big_quiet_step ((go_at_call 8; exact (HREP.out _).mono fun _ _ ⟨he, h⟩ => ⟨he, ⟨_, (Ext.hb _).trans (h.mono (Ext.hb _).size)⟩, rfl⟩)))
                refine wpQuiet_nil ?_
                intro x
                go_wp2_with (go_at_call 52; (with_reducible refine (put_any L w0 g ov W M bv ps si (spB d ++ bj.pre) _ (HRx.out x) HLI.out ha0 (by omega) hl0 hl1).mono ?_); rintro e w4 ⟨rfl, hR4⟩; have HR4 := Lib.hid hR4; clear hR4)
                go_roundg (ps.length - (j + 1))
                case rel => exact ⟨j + 1, putRaw si (spB d ++ bj.pre), by omega, by go_num, by rw [← HEI.out]; exact HX, HGn, HBi, HR4⟩
                case measure => omega
              · have ed : (0 : Int) = d := by omega
                rw [← ed] at hrep
                have HREP := Lib.hid hrep
                clear hrep ed hd hd1
                refine wp_region_ext_tail (w0 := wr) 17 (by kernel_rfl) (by kernel_rfl) (Below.refl _ _) ?_
                simp only [List.take_succ_cons, List.take_zero, List.drop_succ_cons, List.drop_zero]
                repeat (go_big_quiet_step ((go_at_call 8; exact (HREP.out _).mono fun _ _ ⟨he, h⟩ => ⟨he, ⟨_, (Ext.hb _).trans (h.mono (Ext.hb _).size)⟩, rfl⟩)))
                refine wpQuiet_nil ?_
                intro x
                go_wp2_with (go_at_call 52; (with_reducible refine (put_any L w0 g ov W M bv ps si (spB d ++ bj.pre) _ (HRx.out x) HLI.out ha0 (by omega) hl0 hl1).mono ?_); rintro e w4 ⟨rfl, hR4⟩; have HR4 := Lib.hid hR4; clear hR4)
                go_roundg (ps.length - (j + 1))
                case rel => exact ⟨j + 1, putRaw si (spB d ++ bj.pre), by omega, by go_num, by rw [← HEI.out]; exact HX, HGn, HBi, HR4⟩
                case measure => omega
          · have hjl : j = ps.length := by omega
            have hx := HX.out
            have hnil : s.blocks.drop j = [] := List.drop_eq_nil_of_le (by rw [← HSB.out]; omega)
            rw [hnil] at hx
            obtain rfl : si = s2 := Option.some.inj hx
            obtain ⟨_, hblk⟩ := HRi.out.blks k p top HP0.out (by rw [HBi.out]; exact HT0.out)
            have p1 : wr.cell? ⟨p, 1, none⟩ = some (.int .i64 top.indent) := blk_cell hblk 1
            obtain ⟨d, hd⟩ : ∃ d : Nat, max (top.indent - si.at_) 0 = d := ⟨(max (top.indent - si.at_) 0).toNat, by omega⟩
            have hd' : (max (top.indent - si.at_) 0).toNat = d := by omega
            have e3 := HE3.out
            have l3 := HL3.out
            rw [hd'] at e3 l3
            have HL := Lib.hid l3
            have hd1 : d ≤ 1000000 := by omega
            have x1 := ext_cell p1
            have x4 := ext_cell f4
            have hrep := fun W => L.rep d W (by omega)
            have hne := ext_some wr
            have ei2 : (Rep w0 g ov W M bv ps si wr) := HRi.out
            have HRx := Lib.hid (fun x : Ext wr => Rep.bel ei2 x.hb)
            have ew : IntKind.i64.wrap (top.indent - si.at_) = top.indent - si.at_ := IntWalk.i64_in _ (by omega)
            have hd0 : (0 : Int) ≤ (d : Int) := Int.natCast_nonneg _
            subst e3
            clear hx hnil HX HE3 HL3 l3 HRi HBi HGi hblk p1 f4 hbi ei2 hjl HT0 HP0 hd'
            by_cases hfa : si.at_ ≤ top.indent
            · have ed : (d : Int) = top.indent - si.at_ := by omega
              rw [ed] at hrep
              have HREP := Lib.hid hrep
              clear hrep ed hd hd1 hd0
              go_wp2_with fail
              refine wp_region_ext_tail (w0 := wr) 12 (by kernel_rfl) (by kernel_rfl) (Below.refl _ _) ?_
              simp only [List.take_succ_cons, List.take_zero, List.drop_succ_cons, List.drop_zero]
              repeat (go_big_quiet_step ((go_at_call 8; exact (HREP.out _).mono fun _ _ ⟨he, h⟩ => ⟨he, ⟨_, (Ext.hb _).trans (h.mono (Ext.hb _).size)⟩, rfl⟩)))
              refine wpQuiet_nil ?_
              intro x
              go_wp2_with (go_at_call 52; (with_reducible refine (put_any L w0 g ov W M bv ps si (spB d) _ (HRx.out x) HL.out ha0 (by omega) hl0 hl1).mono ?_); rintro e w4 ⟨rfl, hR4⟩; have HR4 := Lib.hid hR4; clear hR4)
              go_end0
              exact ⟨rfl, HR4.out⟩
            · have ed : (0 : Int) = d := by omega
              rw [← ed] at hrep
              have HREP := Lib.hid hrep
              clear hrep ed hd hd1 hd0
              go_wp2_with fail
              refine wp_region_ext_tail (w0 := wr) 12 (by kernel_rfl) (by kernel_rfl) (Below.refl _ _) ?_
              simp only [List.take_succ_cons, List.take_zero, List.drop_succ_cons, List.drop_zero]
              repeat (go_big_quiet_step ((go_at_call 8; exact (HREP.out _).mono fun _ _ ⟨he, h⟩ => ⟨he, ⟨_, (Ext.hb _).trans (h.mono (Ext.hb _).size)⟩, rfl⟩)))
              refine wpQuiet_nil ?_
              intro x
              go_wp2_with (go_at_call 52; (with_reducible refine (put_any L w0 g ov W M bv ps si (spB d) _ (HRx.out x) HL.out ha0 (by omega) hl0 hl1).mono ?_); rintro e w4 ⟨rfl, hR4⟩; have HR4 := Lib.hid hR4; clear hR4)
              go_end0
              exact ⟨rfl, HR4.out⟩
end Go.Proofs.YtljgpcaljedhpaaDoor
