/- The reference's put, walked. -/
/- The reference's broken, walked. -/
import Derived.Test.YtljgpcaljedhpaaDoorR9
import Derived.Laws.ResultCell
import Derived.Deep.MidRow
import Derived.Laws.CopyOwn
namespace Go.Proofs.YtljgpcaljedhpaaDoor
open Go.RowKit

/-- A page of the reference. -/
def pageV (s : St) (W : Int) (bv : Value) : Value := .agg #[.string ⟨s.out.toArray⟩, .int .i64 s.at_, .int .i64 s.lines, .int .i64 W, bv]

theorem size86 : (Tryd.prog.info? 86).map (·.size) = some 5 := by kernel_rfl
/-- A page handed back. -/
theorem ret86 {fn : Func} {p : Tmp} (h : fn.results = #[.cell p 86]) {R : Ending → World → Prop} {a : Act} {w : World} (g : Nat) (cs : Array Value) (hp : a.tmps.getD p undef = .pointer (some ⟨g, 0, none⟩))
    (hg : w.heap[g]? = some (.cells cs 86 (0, 0))) (hs : cs.size = 5) (hd : a.defers = []) (hR : R (.returned (.agg cs)) w) : bodyPost Tryd.prog fn R .ret a w :=
  bodyPost_ret (results_cell_row h _ _ g 86 cs (0, 0) _ hp hg Tryd.underlying86 rfl (by rw [hs]; exact size86)) hd hR

set_option maxRecDepth 100000 in
set_option maxHeartbeats 4000000 in
theorem rput_any (s : St) (t : ByteArray) (W : Int) (A : Option Addr) (n cap : Nat) (w : World) (hv : Lib.validD t.data.toList = true) (ht : t.size ≤ 1000000) (ho : s.out.length ≤ 1000000000000)
    (a0 : 0 ≤ s.at_) (a1 : s.at_ ≤ 1000000000000) (l0 : 0 ≤ s.lines) (l1 : s.lines ≤ 1000000000000) :
    Calls Tryd.prog 60 #[pageV s W (.slice A n cap), .string t] w fun e w' => e = .returned (pageV (putRaw s t) W (.slice A n cap)) ∧ Below w.heap.size w w' := by
  obtain ⟨out, c, ln, bks⟩ := s
  simp only at ho a0 a1 l0 l1
  have hcol := rcol_any c t hv
  unfold pageV putRaw
  simp only
  rw [hcol]
  have hfd := fun w => feeds_lf t (by omega) w
  have hfw := fw_le t
  have hlw := lfs_le t
  have hadd := fun W => run_string_add_sum (P := Tryd.prog) W ⟨out.toArray⟩ t (by show out.toArray.size + t.size ≤ _; simp; omega)
  rw [bytes_app] at hadd
  change Calls _ _ _ _ fun e w' => e = .returned (.agg #[.string ⟨(out ++ t.data.toList).toArray⟩, _, .int .i64 (ln + (lfs t : Int)), _, _]) ∧ _
  generalize out ++ t.data.toList = o2 at *
  generalize fw t = b at *
  generalize lfs t = a at *
  have HFD := Lib.hid hfd
  clear hfd hv
  by_cases ha : 0 < a
  · rw [if_pos ha]
    have ha' : (0 : Int) < (a : Int) := by omega
    clear ha
    go_enter Tryd.func60, Tryd.ntmps60
    go_wp2_with (go_at_call 41; refine (HFD.out _).mono ?_; rintro e w' ⟨rfl, rfl⟩)
    refine ret86 rfl (w.heap.size + 1) _ rfl (heap_alloc2 w _ _) rfl rfl ⟨by rw [Int.zero_add], ?_⟩
    exact (new1 w _).alloc (by simp) _
  · rw [if_neg ha]
    have ha' : ¬ (0 : Int) < (a : Int) := by omega
    clear ha
    go_enter Tryd.func60, Tryd.ntmps60
    go_wp2_with (go_at_call 41; refine (HFD.out _).mono ?_; rintro e w' ⟨rfl, rfl⟩)
    refine ret86 rfl (w.heap.size + 1) _ rfl (heap_alloc2 w _ _) rfl rfl ⟨rfl, ?_⟩
    exact (new1 w _).alloc (by simp) _
end Go.Proofs.YtljgpcaljedhpaaDoor
namespace Go.Proofs.YtljgpcaljedhpaaDoor
open Go.RowKit

/-- A page's cells. -/
def pgC (s : St) (W : Int) (bv : Value) : Array Value := #[.string ⟨s.out.toArray⟩, .int .i64 s.at_, .int .i64 s.lines, .int .i64 W, bv]
theorem pageV_eq (s : St) (W : Int) (bv : Value) : pageV s W bv = .agg (pgC s W bv) := rfl
theorem pg_cell {w : World} {g : Nat} {s : St} {W : Int} {bv : Value} (h : w.heap[g]? = some (.cells (pgC s W bv) 86 (0, 0))) :
    w.cell? ⟨g, 0, none⟩ = some (.string ⟨s.out.toArray⟩) ∧ w.cell? ⟨g, 1, none⟩ = some (.int .i64 s.at_) ∧ w.cell? ⟨g, 2, none⟩ = some (.int .i64 s.lines) ∧ w.cell? ⟨g, 3, none⟩ = some (.int .i64 W) ∧ w.cell? ⟨g, 4, none⟩ = some bv :=
  ⟨blk_cell h 0, blk_cell h 1, blk_cell h 2, blk_cell h 3, blk_cell h 4⟩
/-- A block of the reference as cells. -/
def rbkC (b : Bk) : List Value := [.int .i64 b.start, .int .i64 b.indent, .bool b.long, .bool b.miser, .string b.pre, .bool b.each, .int .i64 b.front, .bool (!b.slong), .int .i64 b.lines]
/-- The cells of a slice of blocks. -/
def BksAt (w : World) (ad : Addr) (l : List Bk) : Prop :=
  ∀ (i : Nat) (b : Bk), l[i]? = some b → w.cell? (ad.add (i * 9)) = some (.int .i64 b.start) ∧ w.cell? ⟨(ad.add (i * 9)).block, (ad.add (i * 9)).off + 1, none⟩ = some (.int .i64 b.indent) ∧
    w.cell? ⟨(ad.add (i * 9)).block, (ad.add (i * 9)).off + 2, none⟩ = some (.bool b.long) ∧ w.cell? ⟨(ad.add (i * 9)).block, (ad.add (i * 9)).off + 3, none⟩ = some (.bool b.miser) ∧
    w.cell? ⟨(ad.add (i * 9)).block, (ad.add (i * 9)).off + 4, none⟩ = some (.string b.pre) ∧ w.cell? ⟨(ad.add (i * 9)).block, (ad.add (i * 9)).off + 5, none⟩ = some (.bool b.each) ∧
    w.cell? ⟨(ad.add (i * 9)).block, (ad.add (i * 9)).off + 6, none⟩ = some (.int .i64 b.front) ∧ w.cell? ⟨(ad.add (i * 9)).block, (ad.add (i * 9)).off + 7, none⟩ = some (.bool (!b.slong)) ∧
    w.cell? ⟨(ad.add (i * 9)).block, (ad.add (i * 9)).off + 8, none⟩ = some (.int .i64 b.lines)
theorem BksAt.below {w w' : World} {ad : Addr} {l : List Bk} (h : BksAt w ad l) (hb : Below w.heap.size w w') (ha : ad.block < w.heap.size) : BksAt w' ad l := fun i x hx => by
  obtain ⟨h0, h1, h2, h3, h4, h5, h6, h7, h8⟩ := h i x hx
  have e : (ad.add (i * 9)).block < w.heap.size := by rw [block_of_add]; exact ha
  exact ⟨(hb.cell e).trans h0, (hb.cell (p := ⟨_, _, none⟩) e).trans h1, (hb.cell (p := ⟨_, _, none⟩) e).trans h2, (hb.cell (p := ⟨_, _, none⟩) e).trans h3, (hb.cell (p := ⟨_, _, none⟩) e).trans h4, (hb.cell (p := ⟨_, _, none⟩) e).trans h5, (hb.cell (p := ⟨_, _, none⟩) e).trans h6, (hb.cell (p := ⟨_, _, none⟩) e).trans h7, (hb.cell (p := ⟨_, _, none⟩) e).trans h8⟩

theorem ext_take (o : List UInt8) (j : Nat) : (⟨o.toArray⟩ : ByteArray).extract 0 j = ⟨(o.take j).toArray⟩ := by
  apply ByteArray.ext
  apply Array.toList_inj.1
  rw [ByteArray.data_extract, Array.toList_extract]
  simp [List.extract]

/-- What broken asks of its page. -/
structure BrokenAsks (s : St) : Prop where
  a0 : 0 ≤ s.at_
  a1 : s.at_ ≤ 1000000
  ln0 : 0 ≤ s.lines
  ln1 : s.lines ≤ 1000000
  len : s.out.length ≤ 1000000
  ne : s.blocks ≠ []
  few : s.blocks.length ≤ 1000
  bk : ∀ b ∈ s.blocks, BkOk b
  pre : ∀ b ∈ s.blocks, Lib.validD b.pre.data.toList = true

/-- A state's numbers are at most N. -/
structure SmSt (s : St) (N : Nat) : Prop where
  a0 : 0 ≤ s.at_
  a1 : s.at_ ≤ N
  l0 : 0 ≤ s.lines
  l1 : s.lines ≤ N
  len : s.out.length ≤ N
theorem SmSt.put {s : St} {N M K : Nat} {t : ByteArray} (h : SmSt s N) (ht : t.size ≤ M) (hK : N + M ≤ K) : SmSt (putRaw s t) K := by
  obtain ⟨c0, c1⟩ := colP_bd s.at_ t h.a0
  have := h.a1; have := h.l0; have := h.l1; have := h.len
  have hl := lfs_le t
  refine ⟨c0, ?_, ?_, ?_, ?_⟩
  · show colP s.at_ t ≤ _; omega
  · show 0 ≤ s.lines + (lfs t : Int); omega
  · show s.lines + (lfs t : Int) ≤ _; omega
  · rw [put_len]; omega

/-- A page in the block g, and the block of the result behind it. -/
structure PgAt (w : World) (W : Int) (sl : Value) (s : St) (w' : World) : Prop where
  below : Below w.heap.size w w'
  pg : w'.heap[w.heap.size]? = some (.cells (pgC s W sl) 86 (0, 0))
  res : w'.heap[w.heap.size + 1]? = some (.cells #[.string ⟨#[]⟩, .int .i64 0, .int .i64 0, .int .i64 0, .slice none 0 0] 86 (0, 0))
theorem PgAt.bel {w : World} {W : Int} {sl : Value} {s : St} {w1 w2 : World} (h : PgAt w W sl s w1) (hb : Below w1.heap.size w1 w2) : PgAt w W sl s w2 :=
  ⟨h.below.trans (hb.mono h.below.size), blk_below h.pg hb, blk_below h.res hb⟩
theorem PgAt.row {w : World} {W : Int} {sl : Value} {s s' : St} {w1 : World} (h : PgAt w W sl s w1) : PgAt w W sl s' (w1.setRow w.heap.size (pgC s' W sl)) :=
  ⟨below_setRow h.below (Nat.le_refl _) _, setRow_heap _ _ _ _ _ _ h.pg, (setRow_other _ _ _ _ (by omega)).trans h.res⟩
theorem PgAt.out {w : World} {W : Int} {sl : Value} {s : St} {w1 : World} (h : PgAt w W sl s w1) (o : List UInt8) : PgAt w W sl { s with out := o } (w1.setCell ⟨w.heap.size, 0, none⟩ (.string ⟨o.toArray⟩)) :=
  ⟨h.below.setCell (p := ⟨w.heap.size, 0, none⟩) (Nat.le_refl _) _, by rw [blk_set h.pg 0]; rfl, blk_far h.res (p := ⟨w.heap.size, 0, none⟩) (by show w.heap.size + 1 ≠ w.heap.size; omega) _⟩
theorem pgC_one {s : St} {W : Int} {A : Option Addr} {n c : Nat} : (pgC s W (.slice A n c)).all (·.oneCell') = true := by simp [pgC, Value.oneCell']

theorem top_at {s : St} (h : s.blocks ≠ []) : s.blocks[s.blocks.length - 1]? = some (topOf s) := by
  unfold topOf
  rw [List.getLastD_eq_getLast?, List.getLast?_eq_some_getLast h, ← List.getLast?_eq_getElem?, List.getLast?_eq_some_getLast h]
  rfl

set_option maxRecDepth 100000 in
set_option maxHeartbeats 1600000 in
theorem rbroken_any (s : St) (W : Int) (ad : Addr) (cap : Nat) (w : World) (hs : BrokenAsks s) (hb : BksAt w ad s.blocks) (had : ad.block < w.heap.size) (_hcap : s.blocks.length ≤ cap) :
    Calls Tryd.prog 63 #[pageV s W (.slice (some ad) s.blocks.length cap)] w fun e w' => e = .returned (pageV (rbrokenP s) W (.slice (some ad) s.blocks.length cap)) ∧ Below w.heap.size w w' := by
  have HS := Lib.hid hs
  have HBK := Lib.hid hb
  have hlen := hs.len
  have hfew := hs.few
  clear hb
  unfold pageV
  go_enter Tryd.func63, Tryd.ntmps63
  go_wp2_with fail
  obtain ⟨Z, hZ⟩ : ∃ Z, (w.alloc (.cells #[.string ⟨s.out.toArray⟩, .int .i64 s.at_, .int .i64 s.lines, .int .i64 W, .slice (some ad) s.blocks.length cap] 86)).alloc (.cells #[.string ⟨#[]⟩, .int .i64 0, .int .i64 0, .int .i64 0, .slice none 0 0] 86) = Z := ⟨_, rfl⟩
  rw [hZ]
  have hzb : Below w.heap.size w Z := by rw [← hZ]; exact (new1 w _).alloc (by simp) _
  have hz0 : Z.heap[w.heap.size]? = some (.cells (pgC s W (.slice (some ad) s.blocks.length cap)) 86 (0, 0)) := by rw [← hZ, Below.heap_alloc _ _ _ (by simp)]; exact heap_alloc_new w _
  have hz1 : Z.heap[w.heap.size + 1]? = some (.cells #[.string ⟨#[]⟩, .int .i64 0, .int .i64 0, .int .i64 0, .slice none 0 0] 86 (0, 0)) := by rw [← hZ]; exact heap_alloc2 w _ _
  obtain ⟨p0, p1, p2, p3, p4⟩ := pg_cell hz0
  have pf := blk_frozen hz0
  have HZB := Lib.hid hzb
  have HZ0 := Lib.hid hz0
  have HZ1 := Lib.hid hz1
  have hsz : (⟨s.out.toArray⟩ : ByteArray).size = s.out.length := by show s.out.toArray.size = _; simp
  clear hZ hzb hz0 hz1
  go_loopw [3] (fun v3 w' => ∃ (j : Nat), v3 = .int .i64 j ∧ j ≤ s.out.length ∧ Hid (trimR (s.out.take j) = trimR s.out) ∧ Z = w') (fun v3 _ => (intOf v3).toNat)
  case atStart => exact ⟨s.out.length, rfl, Nat.le_refl _, Lib.hid (by rw [List.take_length]), rfl⟩
  case round =>
    obtain ⟨j, rfl, hj, HT, rfl⟩ := hrel
    have hcall : ∀ j : Nat, j ≤ s.out.length → trimR s.out = s.out.take j → True := fun _ _ _ => trivial
    by_cases hsp : ∃ q, j = q + 1 ∧ s.out[q]? = some 32
    · obtain ⟨q, rfl, hq32⟩ := hsp
      have e1 : ((q + 1 : Nat) : Int) - 1 = (q : Int) := by omega
      have hq : q < s.out.length := by omega
      have hq' : q < (⟨s.out.toArray⟩ : ByteArray).size := by rw [hsz]; exact hq
      have hc : (⟨s.out.toArray⟩ : ByteArray)[q]'hq' = 32 := by
        have : s.out.toArray[q]'(by simpa using hq) = 32 := by
          rw [List.getElem?_eq_getElem hq] at hq32
          simpa using Option.some.inj hq32
        exact this
      have HT' : Hid (trimR (s.out.take q) = trimR s.out) := by
        have h := HT.out
        rw [List.take_add_one, hq32] at h
        simp only [Option.toList_some] at h
        rw [trimR_snoc_sp] at h
        exact h
      clear hq32 HT hcall
      go_wp2_with fail
      go_roundw
      case rel => exact ⟨q, by first | rfl | (rw [e1]), by omega, HT', trivial⟩
      case measure => simp [intOf]
    · have htr : s.out.take j = trimR s.out := by
        rw [← HT.out]
        rcases Nat.eq_zero_or_pos j with rfl | hj0
        · rw [List.take_zero]; rfl
        · obtain ⟨q, rfl⟩ : ∃ q, j = q + 1 := ⟨j - 1, by omega⟩
          obtain ⟨c, hc⟩ : ∃ c, s.out[q]? = some c := ⟨_, List.getElem?_eq_getElem (by omega)⟩
          rw [List.take_add_one, hc]
          simp only [Option.toList_some]
          rw [trimR_snoc _ _ (fun e => hsp ⟨q, rfl, by rw [hc, e]⟩)]
      have hsl : (⟨s.out.toArray⟩ : ByteArray).extract 0 j = ⟨(trimR s.out).toArray⟩ := by rw [ext_take, htr]
      have hnz : ∀ q (hq' : q < (⟨s.out.toArray⟩ : ByteArray).size), j = q + 1 → ((((⟨s.out.toArray⟩ : ByteArray)[q]'hq').toNat : Int) == 32) = false := fun q hq' e => by
        rw [beq_eq_false_iff_ne]
        intro h
        apply hsp
        refine ⟨q, e, ?_⟩
        have h2 : (⟨s.out.toArray⟩ : ByteArray)[q]'hq' = 32 := UInt8.toNat_inj.1 (show _ = 32 by omega)
        have h3 : s.out[q]'(by rw [hsz] at hq'; exact hq') = 32 := by rw [← h2]; rfl
        rw [List.getElem?_eq_getElem (by rw [hsz] at hq'; exact hq'), h3]
      have key : Code.wp Tryd.prog Code.skip (fun _ _ _ => True) = Code.wp Tryd.prog Code.skip (fun _ _ _ => True) := rfl
      have h60 := fun W1 => rput_any { s with out := trimR s.out } ⟨#[10]⟩ W (some ad) s.blocks.length cap W1 (by decide) (by decide) (by have := trimR_len s.out; show (trimR s.out).length ≤ _; omega) hs.a0 (by have := hs.a1; show s.at_ ≤ _; omega) hs.ln0 (by have := hs.ln1; show s.lines ≤ _; omega)
      unfold pageV at h60
      simp only at h60
      have hsm1 : SmSt (putRaw { s with out := trimR s.out } ⟨#[10]⟩) 1000001 := by
        refine SmSt.put (N := 1000000) (M := 1) ⟨hs.a0, hs.a1, hs.ln0, hs.ln1, ?_⟩ (by decide) (by decide)
        have := trimR_len s.out
        show (trimR s.out).length ≤ _
        omega
      obtain ⟨S1, hS1⟩ : ∃ S1, putRaw { s with out := trimR s.out } ⟨#[10]⟩ = S1 := ⟨_, rfl⟩
      rw [hS1] at h60 hsm1
      have H60 := Lib.hid h60
      have HS1 := Lib.hid hS1
      have HSM1 := Lib.hid hsm1
      have HPG := Lib.hid ((show PgAt w W (.slice (some ad) s.blocks.length cap) s Z from ⟨HZB.out, HZ0.out, HZ1.out⟩).out (trimR s.out))
      clear h60 hS1 hsm1
      rcases Nat.eq_zero_or_pos j with rfl | hj0
      rotate_left
      obtain ⟨q, rfl⟩ : ∃ q, j = q + 1 := ⟨j - 1, by omega⟩
      have e1 : ((q + 1 : Nat) : Int) - 1 = (q : Int) := by omega
      have hq' : q < (⟨s.out.toArray⟩ : ByteArray).size := by rw [hsz]; omega
      have hn32 := hnz q hq' rfl
      clear key hnz hsp HT hcall hs
      go_wp2_with fail
      rotate_left
      have he0 : ByteArray.empty = ⟨(trimR s.out).toArray⟩ := by rw [← htr]; rfl
      clear key hnz hsp HT hcall hs
      go_wp2_with fail
      rw [he0]
      clear he0
      all_goals
        refine (H60.out _).mono ?_
        rintro e w1 ⟨rfl, hb1⟩
        have HP1 := Lib.hid (HPG.out.bel hb1)
        clear hb1 p0 p1 p2 p3 p4 pf HPG
        go_wp2_with (refine wpList_store_row rfl 86 _ _ rfl w.heap.size _ rfl rfl 86 _ HP1.out.pg size86 rfl pgC_one ?_)
        clear H60
        obtain ⟨S2, hS2⟩ : ∃ S2, rprefixesP (s.blocks.drop 0) S1 = S2 := ⟨_, rfl⟩
        have HX0 := Lib.hid hS2
        have HSM0 : Hid (SmSt S1 (2000000 * (0 + 1))) := ⟨HSM1.out.a0, by have := HSM1.out.a1; omega, HSM1.out.l0, by have := HSM1.out.l1; omega, by have := HSM1.out.len; omega⟩
        have HRES : Hid (rbrokenP s = putRaw S2 (spB ((topOf s).indent - S2.at_).toNat)) := by
          show rbrokenP s = _
          rw [← hS2, List.drop_zero]
          unfold rbrokenP
          rw [HS1.out]
        have HP2 : Hid (PgAt w W (.slice (some ad) s.blocks.length cap) S1 (w1.setRow w.heap.size (pgC S1 W (.slice (some ad) s.blocks.length cap)))) := HP1.out.row
        clear hS2 HS1 HSM1
        go_loopw [4] (fun v4 w' => ∃ (j : Nat) (si : St), v4 = .int .i64 j ∧ j ≤ s.blocks.length ∧ Hid (rprefixesP (s.blocks.drop j) si = S2) ∧ Hid (SmSt si (2000000 * (j + 1))) ∧ Hid (PgAt w W (.slice (some ad) s.blocks.length cap) si w')) (fun v4 _ => s.blocks.length - (intOf v4).toNat)
        case atStart => exact ⟨0, S1, rfl, Nat.zero_le _, HX0, HSM0, HP2⟩
        case round =>
          obtain ⟨j, si, rfl, hj, HX, HSM, HP⟩ := hrel
          obtain ⟨g0, g1, g2, g3, g4⟩ := pg_cell HP.out.pg
          by_cases hlt : j < s.blocks.length
          · obtain ⟨b, hb⟩ : ∃ b, s.blocks[j]? = some b := ⟨_, List.getElem?_eq_getElem hlt⟩
            obtain ⟨b0, b1, b2, b3, b4, b5, b6, b7, b8⟩ := (HBK.out.below HP.out.below had) j b hb
            have hbm := HS.out.bk b (List.mem_of_getElem? hb)
            have hpv := HS.out.pre b (List.mem_of_getElem? hb)
            have hX := HX.out
            rw [List.drop_eq_getElem_cons hlt] at hX
            rw [List.getElem?_eq_getElem hlt] at hb
            rw [Option.some.inj hb] at hX
            unfold rprefixesP at hX
            obtain ⟨bst, bin, bfr, bpre, blo, bmi, bea, bli, bsl⟩ := b
            simp only at b0 b1 b2 b3 b4 b5 b6 b7 b8 hX hpv
            cases bea
            · simp only [Bool.false_eq_true, reduceIte] at hX
              have HX := Lib.hid hX
              have HP' := Lib.hid (HP.out.bel (new1 wr (.cells #[.int .i64 bst, .int .i64 bin, .bool blo, .bool bmi, .string bpre, .bool false, .int .i64 bfr, .bool (!bsl), .int .i64 bli] 83)))
              have HSM' : Hid (SmSt si (2000000 * (j + 1 + 1))) := ⟨HSM.out.a0, by have := HSM.out.a1; omega, HSM.out.l0, by have := HSM.out.l1; omega, by have := HSM.out.len; omega⟩
              clear hX hb hbm hpv
              go_wp2_with fail
              go_roundw
              case rel => exact ⟨j + 1, si, by go_num, by omega, HX, HSM', HP'⟩
              case measure => simp [intOf]; omega
            · simp only [reduceIte] at hX
              have hf0 := hbm.f0
              have hf1 := hbm.f1
              have hpz := hbm.pr
              simp only at hf0 hf1 hpz
              have ha0 := HSM.out.a0
              have ha1 := HSM.out.a1
              have hl0 := HSM.out.l0
              have hl1 := HSM.out.l1
              have hol := HSM.out.len
              obtain ⟨d, hd⟩ : ∃ d, bfr - si.at_ = d := ⟨_, rfl⟩
              rw [hd] at hX
              have hsd := spB_size d.toNat
              have h39 := fun W1 => rspaces_any d (by omega) W1
              have h60a := fun W1 => rput_any si (spB d.toNat) W (some ad) s.blocks.length cap W1 (valid_spB _) (by omega) (by omega) ha0 (by omega) hl0 (by omega)
              have hsma : SmSt (putRaw si (spB d.toNat)) (2000000 * (j + 1) + 1000000) := HSM.out.put (M := 1000000) (by omega) (Nat.le_refl _)
              generalize hSa : putRaw si (spB d.toNat) = Sa at *
              have h60b := fun W1 => rput_any Sa bpre W (some ad) s.blocks.length cap W1 hpv (by omega) (by have := hsma.len; omega) hsma.a0 (by have := hsma.a1; omega) hsma.l0 (by have := hsma.l1; omega)
              have hsmb : SmSt (putRaw Sa bpre) (2000000 * (j + 1 + 1)) := hsma.put (M := 20000) hpz (by omega)
              generalize hSb : putRaw Sa bpre = Sb at *
              unfold pageV at h60a h60b
              have ew : IntKind.i64.wrap (bfr - si.at_) = d := by rw [hd]; exact IntWalk.i64_in _ (by omega)
              have H39 := Lib.hid h39
              have HA := Lib.hid h60a
              have HB := Lib.hid h60b
              have HX := Lib.hid hX
              have HSB := Lib.hid hsmb
              have HD := Lib.hid hd
              clear hX h39 h60a h60b hsma hsmb hbm hb hpv hSa hSb hd hsd ha0 ha1 hl0 hl1 hol HSM
              go_wp2_with fail
              obtain ⟨V, hV⟩ : ∃ V, wr.alloc (.cells #[.int .i64 bst, .int .i64 bin, .bool blo, .bool bmi, .string bpre, .bool true, .int .i64 bfr, .bool (!bsl), .int .i64 bli] 83) = V := ⟨_, rfl⟩
              rw [hV]
              have hpg : PgAt w W (.slice (some ad) s.blocks.length cap) si V := by rw [← hV]; exact HP.out.bel (new1 wr _)
              have hloc : V.heap[wr.heap.size]? = some (.cells #[.int .i64 bst, .int .i64 bin, .bool blo, .bool bmi, .string bpre, .bool true, .int .i64 bfr, .bool (!bsl), .int .i64 bli] 83 (0, 0)) := by rw [← hV]; exact heap_alloc_new wr _
              have hne : wr.heap.size ≠ w.heap.size := by have := blk_lt HP.out.pg; omega
              have HPG := Lib.hid hpg
              have HLOC := Lib.hid hloc
              clear b0 b1 b2 b3 b4 b5 b6 b7 b8 g0 g1 g2 g3 g4 hV
              obtain ⟨g0, g1, g2, g3, g4⟩ := pg_cell hpg.pg
              have x0 := ext_cell g0
              have x1 := ext_cell g1
              have x2 := ext_cell g2
              have x3 := ext_cell g3
              have x4 := ext_cell g4
              have x6 := ext_cell (show V.cell? ⟨wr.heap.size, 6, none⟩ = some (.int .i64 bfr) from blk_cell hloc 6)
              have hso := ext_some V
              clear hpg hloc g0 g1 g2 g3 g4 HP
              refine wp_region_ext_tail (w0 := V) 8 (by kernel_rfl) (by kernel_rfl) (Below.refl _ _) ?_
              simp only [List.take_succ_cons, List.take_zero, List.drop_succ_cons, List.drop_zero]
              repeat (go_big_quiet_step (first | (go_at_call 39; exact (H39.out _).mono fun _ _ ⟨he, h⟩ => ⟨he, ⟨_, (Ext.hb _).trans (h.mono (Ext.hb _).size)⟩, rfl⟩) | (go_at_call 60; exact (HA.out _).mono fun _ _ ⟨he, h⟩ => ⟨he, ⟨_, (Ext.hb _).trans (h.mono (Ext.hb _).size)⟩, rfl⟩)))
              refine wpQuiet_nil ?_
              intro x
              obtain ⟨Y, hY⟩ : ∃ Y, x.val = Y := ⟨_, rfl⟩
              have HPY : Hid (PgAt w W (.slice (some ad) s.blocks.length cap) si Y) := Lib.hid (by rw [← hY]; exact HPG.out.bel x.hb)
              have HLY := Lib.hid (blk_below HLOC.out x.hb)
              rw [hY] at HLY ⊢
              clear x0 x1 x2 x3 x4 x6 hso hY HPG HLOC
              have HPA : Hid (PgAt w W (.slice (some ad) s.blocks.length cap) Sa (Y.setRow w.heap.size (pgC Sa W (.slice (some ad) s.blocks.length cap)))) := HPY.out.row
              have hl4 : (Y.setRow w.heap.size (pgC Sa W (.slice (some ad) s.blocks.length cap))).cell? ⟨wr.heap.size, 4, none⟩ = some (.string bpre) := blk_cell ((setRow_other _ _ _ _ hne).trans HLY.out) 4
              obtain ⟨k0, k1, k2, k3, k4⟩ := pg_cell HPA.out.pg
              go_wp2_with (first
                | (go_at_call 60; refine (HB.out _).mono ?_; rintro e w5 ⟨rfl, hb5⟩; have HP5 := Lib.hid (HPA.out.bel hb5); clear hb5 k0 k1 k2 k3 k4 hl4)
                | (refine wpList_store_row rfl 86 _ _ rfl w.heap.size (pgC Sb W (.slice (some ad) s.blocks.length cap)) rfl rfl 86 _ HP5.out.pg size86 rfl pgC_one ?_)
                | (refine wpList_store_row rfl 86 _ _ rfl w.heap.size (pgC Sa W (.slice (some ad) s.blocks.length cap)) rfl rfl 86 _ HPY.out.pg size86 rfl pgC_one ?_))
              go_roundw
              case rel => exact ⟨j + 1, Sb, by go_num, by omega, HX, HSB, HP5.out.row⟩
              case measure => simp [intOf]; omega
          · obtain rfl : j = s.blocks.length := by omega
            have hX := HX.out
            rw [List.drop_length] at hX
            obtain rfl : si = S2 := hX
            have htop := top_at HS.out.ne
            have hbt := HS.out.bk _ (topOf_mem HS.out.ne)
            obtain ⟨b0, b1, b2, b3, b4, b5, b6, b7, b8⟩ := (HBK.out.below HP.out.below had) _ _ htop
            have hi0 := hbt.i0
            have hi1 := hbt.i1
            generalize htt : topOf s = b at *
            obtain ⟨bst, bin, bfr, bpre, blo, bmi, bea, bli, bsl⟩ := b
            simp only at b0 b1 b2 b3 b4 b5 b6 b7 b8 hi0 hi1
            have hne := List.length_pos_iff.2 HS.out.ne
            have ha0 := HSM.out.a0
            have ha1 := HSM.out.a1
            have hl0 := HSM.out.l0
            have hl1 := HSM.out.l1
            have hol := HSM.out.len
            obtain ⟨d, hd⟩ : ∃ d, bin - si.at_ = d := ⟨_, rfl⟩
            have hsd := spB_size d.toNat
            have h39 := fun W1 => rspaces_any d (by omega) W1
            have h60a := fun W1 => rput_any si (spB d.toNat) W (some ad) s.blocks.length cap W1 (valid_spB _) (by omega) (by omega) ha0 (by omega) hl0 (by omega)
            have hR := HRES.out
            simp only [hd] at hR
            generalize hSa : putRaw si (spB d.toNat) = Sa at *
            unfold pageV at h60a
            have ew : IntKind.i64.wrap (bin - si.at_) = d := by rw [hd]; exact IntWalk.i64_in _ (by omega)
            have H39 := Lib.hid h39
            have HA := Lib.hid h60a
            have HD := Lib.hid hd
            have HR := Lib.hid hR
            clear h39 h60a hSa hd hsd ha0 ha1 hl0 hl1 hol HSM hR htop hbt HRES
            have e1 : ((s.blocks.length : Nat) : Int) - 1 = ((s.blocks.length - 1 : Nat) : Int) := by omega
            have hlt : s.blocks.length - 1 < s.blocks.length := by omega
            have x1 := ext_cell b1
            have y0 := ext_cell g0
            have y1 := ext_cell g1
            have y2 := ext_cell g2
            have y3 := ext_cell g3
            have y4 := ext_cell g4
            have hso := ext_some wr
            go_wp2_with fail
            clear b0 b1 b2 b3 b4 b5 b6 b7 b8 g0 g1 g2 g3 g4
            refine wp_region_ext_tail (w0 := wr) 15 (by kernel_rfl) (by kernel_rfl) (Below.refl _ _) ?_
            simp only [List.take_succ_cons, List.take_zero, List.drop_succ_cons, List.drop_zero]
            repeat (go_big_quiet_step (first | (go_at_call 39; exact (H39.out _).mono fun _ _ ⟨he, h⟩ => ⟨he, ⟨_, (Ext.hb _).trans (h.mono (Ext.hb _).size)⟩, rfl⟩) | (go_at_call 60; exact (HA.out _).mono fun _ _ ⟨he, h⟩ => ⟨he, ⟨_, (Ext.hb _).trans (h.mono (Ext.hb _).size)⟩, rfl⟩)))
            refine wpQuiet_nil ?_
            intro x
            obtain ⟨Y, hY⟩ : ∃ Y, x.val = Y := ⟨_, rfl⟩
            have HPY : Hid (PgAt w W (.slice (some ad) s.blocks.length cap) si Y) := Lib.hid (by rw [← hY]; exact HP.out.bel x.hb)
            rw [hY]
            clear x1 y0 y1 y2 y3 y4 hso hY
            go_wp2_with (refine wpList_store_row rfl 86 _ _ rfl (w.heap.size + 1) (pgC Sa W (.slice (some ad) s.blocks.length cap)) rfl rfl 86 _ HPY.out.res size86 rfl pgC_one ?_)
            refine ret86 rfl (w.heap.size + 1) (pgC Sa W (.slice (some ad) s.blocks.length cap)) rfl (setRow_heap _ _ _ _ _ _ HPY.out.res) rfl rfl ⟨?_, below_setRow HPY.out.below (Nat.le_succ _) _⟩
            rw [HR.out]
            rfl
end Go.Proofs.YtljgpcaljedhpaaDoor
