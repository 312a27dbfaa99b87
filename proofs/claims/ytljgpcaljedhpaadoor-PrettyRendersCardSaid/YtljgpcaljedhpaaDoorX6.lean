/- Flat. -/
import Derived.Test.YtljgpcaljedhpaaDoorX5
namespace Go.Proofs.YtljgpcaljedhpaaDoor
open Go.RowKit

theorem builder_below {T B b : Nat} {l : List Value} {w w' : World} (h : Lib.IsBuilder T 5 B b l w) (hb : Below w.heap.size w w') : Lib.IsBuilder T 5 B b l w' := by
  have key : ∀ p, Lib.BuilderAt T 5 B b p l w → Lib.BuilderAt T 5 B b p l w' := fun p ⟨h0, v, h1, h2, h3⟩ => ⟨h0, v, blk_below h1 hb, own_below h2 hb, h3⟩
  exact h.elim (fun x => .inl (key _ x)) (fun x => .inr (key _ x))

/-- The operations are right, and not too many: what Check says. -/
structure Fine (l : List Op) : Prop where
  ok : ∀ x ∈ l, okOp x ∧ x.text.size ≤ 20000
  few : l.length ≤ 4000

/-- What Flat answers. -/
def FlatSays (l : List Op) (w : World) (e : Ending) (w' : World) : Prop := e = .returned (.tuple #[.string (flatP l).1, .int .i64 (flatP l).2]) ∧ Below w.heap.size w w'

theorem checkGo_valid : ∀ (l : List Op) (d : Int), checkGo l d = 0 → ∀ x ∈ l, Valid x
  | [], _, _, _, h => by cases h
  | a :: r, d, h, x, hx => by
    rw [checkGo_cons] at h
    split at h
    · rename_i h1; exact absurd h h1
    rename_i h1
    split at h
    · cases h
    rcases List.mem_cons.1 hx with rfl | hx
    · exact valid_of (by simpa using h1)
    · exact checkGo_valid r _ h x hx
theorem check_fine {l : List Op} (h : checkP l = 0) : (∀ x ∈ l, Valid x) ∧ l.length ≤ 4000 ∧ bytesSum l ≤ 20000 ∧ checkGo l 0 = 0 := by
  unfold checkP at h
  split at h
  · cases h
  rename_i h1
  exact ⟨checkGo_valid l 0 h, by omega, by omega, h⟩

set_option maxRecDepth 100000 in
set_option maxHeartbeats 4000000 in
theorem flat_any {E : World → Prop} (L : LibC E) (A : Option Addr) (l : List Op) (cap : Nat) (w : World) (hE : E w) (hops : OpsIn w A l) (hl : l.length ≤ 60000) (ht : ∀ x ∈ l, x.text.size ≤ 140737488355328) :
    Calls Tryd.prog 12 #[.slice A l.length cap] w (FlatSays l w) := by
  have hck := checkAll_any L A l cap w hE hops hl ht
  unfold CheckSays at hck
  obtain ⟨R, hR⟩ : ∃ R, flatP l = R := ⟨_, rfl⟩
  have hpost : ∀ e w', (e = .returned (.tuple #[.string R.1, .int .i64 R.2]) ∧ Below w.heap.size w w') → FlatSays l w e w' := fun e w' h => by rw [← hR] at h; exact h
  refine Calls.mono ?_ hpost
  unfold flatP at hR
  obtain ⟨c, hc⟩ : ∃ c, checkP l = c := ⟨_, rfl⟩
  rw [hc] at hck hR
  have HCK := Lib.hid hck
  have HO := Lib.hid hops
  clear hck hops hpost
  by_cases h0 : c = 0
  · subst h0
    rw [if_neg (by decide)] at hR
    obtain ⟨hval, hfew, hsum, _⟩ := check_fine hc
    have HV := Lib.hid hval
    have HS := Lib.hid hsum
    have HR : Hid ((match flatGo (l.drop 0) [] 0 with | none => ((⟨#[]⟩ : ByteArray), (14 : Int)) | some o => (⟨o.toArray⟩, 0)) = R) := hR
    have hBw : w.heap.size ≤ w.heap.size := Nat.le_refl _
    clear hR hc hval hsum ht hl
    go_enter Tryd.func12, Tryd.ntmps12
    go_wp2_with (go_at_call 17; refine HCK.out.mono ?_; rintro e w1 ⟨rfl, hb1⟩)
    have HN := Lib.hid (Lib.fresh_isBuilder 54 5 w1)
    have hz1 : w.heap.size ≤ w1.heap.size := hb1.size
    have HB1 := Lib.hid (hb1.alloc hb1.size (.cells #[.pointer none, .slice none 0 0] 54))
    obtain ⟨B, hBdef⟩ : ∃ B, w1.heap.size = B := ⟨_, rfl⟩
    have hwB : w.heap.size ≤ B := by rw [← hBdef]; exact hb1.size
    have hB2 : B ≤ (w1.alloc (.cells #[.pointer none, .slice none 0 0] 54)).heap.size := by rw [← hBdef]; simp
    rw [hBdef] at HN
    rw [hBdef]
    have HK : Hid (w1.heap.size = B) := hBdef
    clear hb1 hz1 hBw hBdef
    go_loopw [6, 17] (fun v6 v17 w' => ∃ (j : Nat) (out : List UInt8) (q : Int), v17 = .int .i64 j ∧ v6 = .int .i64 q ∧ j ≤ l.length ∧ out.length ≤ 100000 ∧ 0 ≤ q ∧ q ≤ out.length ∧
      Hid ((match flatGo (l.drop j) out q with | none => ((⟨#[]⟩ : ByteArray), (14 : Int)) | some o => (⟨o.toArray⟩, 0)) = R) ∧ Hid (Lib.IsBuilder 54 5 B B (Lib.byteCells out) w') ∧ B ≤ w'.heap.size ∧ Hid (Below w.heap.size w w')) (fun _ v17 _ => l.length - (intOf v17).toNat)
    case atStart => exact ⟨0, [], 0, rfl, rfl, by omega, by decide, by omega, by decide, HR, HN, hB2, HB1⟩
    case round =>
      obtain ⟨j, out, q, rfl, rfl, hj, hlo, q0, q1, HX, HBU, hBw, hbb⟩ := hrel
      by_cases hlt : j < l.length
      · obtain ⟨⟨k, t, n, m, f⟩, hx⟩ : ∃ x, l[j]? = some x := ⟨_, List.getElem?_eq_getElem hlt⟩
        obtain ⟨ad, rfl, ho, _⟩ := HO.out.below hbb.out (by rintro rfl; simp at hlt)
        obtain ⟨a0, a1, a2, a3, a4⟩ := ho j _ hx
        simp only at a0 a1 a2 a3 a4
        have hval := HV.out _ (List.mem_of_getElem? hx)
        have hts := bytesSum_mem (List.mem_of_getElem? hx)
        have hts2 := HS.out
        simp only at hts
        have hdr : l.drop j = ⟨k, t, n, m, f⟩ :: l.drop (j + 1) := by
          rw [List.drop_eq_getElem_cons hlt]
          rw [List.getElem?_eq_getElem hlt] at hx
          injection hx with hx
          rw [hx]
        have hX := HX.out
        rw [hdr] at hX
        unfold flatGo at hX
        have hwr := written_size ⟨k, t, n, m, f⟩ q q0 hval.okOp (by show t.size ≤ _; omega)
        have h36 := fun W => written_any L k t n m f q W q0 (by omega) hval.okOp
        have h37 := fun W => column_any L q (writtenP ⟨k, t, n, m, f⟩ q) W q0 (by omega) (by omega)
        have hcb := colP_bd q (writtenP ⟨k, t, n, m, f⟩ q) q0
        generalize hs : writtenP ⟨k, t, n, m, f⟩ q = s at *
        generalize hq' : colP q s = q' at *
        have hlen : (out ++ s.data.toList).length = out.length + s.size := by rw [List.length_append, data_len]
        rw [hlen] at hX
        obtain ⟨c0, c1⟩ := hcb
        have h26 := fun W hW hB => L.bws 54 B B out s W rfl hW (by omega) hB
        have h27 := fun W hW => L.blen 54 B B (out ++ s.data.toList) W rfl hW
        rw [hlen] at h27
        have H26 := Lib.hid h26
        have H27 := Lib.hid h27
        have H36 := Lib.hid h36
        have H37 := Lib.hid h37
        have HX := Lib.hid hX
        have HBA := Lib.hid (builder_below HBU.out (new1 wr (.cells #[.int .i64 k, .string t, .int .i64 n, .int .i64 m, .bool f] 26)))
        have hsz : ∀ o, B ≤ (wr.alloc o).heap.size := fun o => by simp; omega
        have HSZ := Lib.hid hsz
        have HBC := Lib.hid (hbb.out.alloc hbb.out.size (.cells #[.int .i64 k, .string t, .int .i64 n, .int .i64 m, .bool f] 26))
        have HLEN := Lib.hid hlen
        clear hs hq' hval hX hdr hx ho h26 h27 h36 h37 hts hts2 hsz hlen
        by_cases hbig : out.length + s.size > 100000
        · have hX := HX.out
          rw [if_pos hbig] at hX
          simp only at hX
          subst hX
          have hbig' : (100000 : Int) < ((out.length + s.size : Nat) : Int) := by omega
          go_wp2_with (first | (go_at_call 36; refine (H36.out _).mono ?_; rintro e w2 ⟨rfl, hb2⟩) | (go_at_call 26; refine (H26.out _ (builder_below HBA.out hb2) (Nat.le_trans (HSZ.out _) hb2.size)).mono ?_; rintro e w3 ⟨rfl, hn3, hb3⟩) | (go_at_call 37; refine (H37.out _).mono ?_; rintro e w4 ⟨rfl, hb4⟩) | (go_at_call 27; refine (H27.out _ (builder_below hn3 hb4)).mono ?_; rintro e w5 ⟨rfl, rfl⟩))
          go_ret2
          exact ⟨rfl, ((HBC.out.trans (hb2.mono HBC.out.size)).trans (hb3.mono hwB)).trans (hb4.mono (Nat.le_trans (Nat.le_trans HBC.out.size hb2.size) hb3.size))⟩
        · have hX := HX.out
          rw [if_neg hbig] at hX
          have HX := Lib.hid hX
          have hbig' : ((out.length + s.size : Nat) : Int) ≤ 100000 := by omega
          clear hX
          go_wp2_with (first | (go_at_call 36; refine (H36.out _).mono ?_; rintro e w2 ⟨rfl, hb2⟩) | (go_at_call 26; refine (H26.out _ (builder_below HBA.out hb2) (Nat.le_trans (HSZ.out _) hb2.size)).mono ?_; rintro e w3 ⟨rfl, hn3, hb3⟩) | (go_at_call 37; refine (H37.out _).mono ?_; rintro e w4 ⟨rfl, hb4⟩) | (go_at_call 27; refine (H27.out _ (builder_below hn3 hb4)).mono ?_; rintro e w5 ⟨rfl, rfl⟩))
          go_roundw
          case rel =>
            exact ⟨j + 1, out ++ s.data.toList, q', by go_num, rfl, by omega, by rw [HLEN.out]; omega, c0, by rw [HLEN.out]; omega, HX, builder_below hn3 hb4, Nat.le_trans (Nat.le_trans (Nat.le_trans (HSZ.out _) hb2.size) hb3.size) hb4.size,
              ((HBC.out.trans (hb2.mono HBC.out.size)).trans (hb3.mono hwB)).trans (hb4.mono (Nat.le_trans (Nat.le_trans HBC.out.size hb2.size) hb3.size))⟩
          case measure => simp [intOf]; omega
      · have hjl : j = l.length := by omega
        have hX := HX.out
        rw [hjl, List.drop_length] at hX
        unfold flatGo at hX
        simp only at hX
        subst hX
        have H28 := Lib.hid (L.bstr 54 B B out wr rfl HBU.out hBw)
        clear HX hjl
        go_wp2_with (go_at_call 28; refine H28.out.mono ?_; rintro e w2 ⟨rfl, hb2⟩)
        go_ret2
        exact ⟨rfl, hbb.out.trans (hb2.mono hwB)⟩
  · rw [if_pos h0] at hR
    subst hR
    have h0' : (c != 0) = true := by simp [h0]
    clear hc ht hl
    go_enter Tryd.func12, Tryd.ntmps12
    go_wp2_with (go_at_call 17; refine HCK.out.mono ?_; rintro e w1 ⟨rfl, hb1⟩)
    go_ret2
    exact ⟨rfl, hb1⟩
end Go.Proofs.YtljgpcaljedhpaaDoor
