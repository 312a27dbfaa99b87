/- The reference's Width, walked. -/
/- The reference's Flat, walked. -/
import Derived.Test.YtljgpcaljedhpaaDoorR7
import Derived.Laws.RangeAny
namespace Go.Proofs.YtljgpcaljedhpaaDoor
open Go.RowKit

set_option maxRecDepth 100000 in
set_option maxHeartbeats 4000000 in
theorem rwidth_any (s : ByteArray) (hs : s.size ≤ 4611686018427387904) (w : World) : Calls Tryd.prog 19 #[.string s] w (WidthSays s w) := by
  have hl := data_len s
  obtain ⟨R, hR⟩ : ∃ R, widthP s = R := ⟨_, rfl⟩
  have hpost : ∀ e w', (e = .returned (.int .i64 R) ∧ Below w.heap.size w w') → WidthSays s w e w' := fun e w' h => by rw [← hR] at h; exact h
  refine Calls.mono ?_ hpost
  rw [width_same] at hR
  have HR : Hid (widthL (s.data.toList.drop 0) 0 0 = R) := hR
  have HL := Lib.hid hl
  clear hR hl hpost
  go_enter Tryd.func19, Tryd.ntmps19
  go_wp2_with fail
  go_loopw [3, 4] (fun v3 v4 w' => ∃ (pos n m : Nat), w' = w.iter s pos ∧ v3 = .int .i64 m ∧ v4 = .int .i64 n ∧ pos ≤ s.size ∧ n ≤ pos ∧ m ≤ pos ∧ Hid (widthL (s.data.toList.drop pos) n m = R)) (fun _ _ w' => s.size - w'.iterPos w.heap.size)
  case atStart => exact ⟨0, 0, 0, rfl, rfl, rfl, by omega, by omega, by omega, HR⟩
  case round =>
    obtain ⟨pos, n, m, rfl, rfl, rfl, hp0, hn, hm, HX⟩ := hrel
    by_cases hp : pos < s.size
    · have hnx : ∀ ty, (Instr.next (.pointer (some ⟨w.heap.size, 0, none⟩)) true ty).run Tryd.prog (w.iter s pos) = _ := fun ty => run_next_any w s pos ty hp
      have hne : s.data.toList.drop pos ≠ [] := by
        intro e
        have := congrArg List.length e
        rw [List.length_drop, HL.out] at this
        simp at this
        omega
      have hX := HX.out
      rw [widthL_step _ _ _ hne] at hX
      have hw1 := wid_pos (s.data.toList.drop pos)
      have hw2 := wid_le (s.data.toList.drop pos) hne
      rw [List.length_drop, HL.out] at hw2
      rw [List.drop_drop] at hX
      have hdt := dec_ten (s.data.toList.drop pos)
      unfold wid at hX hw1 hw2
      rw [Lib.decodeL_drop] at hX hw1 hw2 hdt
      generalize Utf8.decode s pos = d at *
      obtain ⟨r, k⟩ := d
      simp only at hnx hX hw1 hw2 hdt
      by_cases h10 : r = 10
      · rw [if_pos (hdt.1 h10)] at hX
        subst h10
        have HX := Lib.hid hX
        clear hX hdt hne
        go_wp2_with fail
        go_roundw
        case rel => exact ⟨pos + k, 0, m, rfl, rfl, rfl, by omega, by omega, by omega, HX⟩
        case measure => simp; omega
      · rw [if_neg (fun e => h10 (hdt.2 e))] at hX
        have h10' : ((r : Int) == 10) = false := by
          rw [beq_eq_false_iff_ne]; omega
        by_cases hmn : m < n + 1
        · rw [Nat.max_eq_right (by omega)] at hX
          have HX := Lib.hid hX
          have hmn' : (m : Int) < (n : Int) + 1 := by omega
          clear hX hdt hne h10
          go_wp2_with fail
          go_roundw
          case rel => exact ⟨pos + k, n + 1, n + 1, rfl, by go_num, by go_num, by omega, by omega, by omega, HX⟩
          case measure => simp; omega
        · rw [Nat.max_eq_left (by omega)] at hX
          have HX := Lib.hid hX
          have hmn' : (n : Int) + 1 ≤ (m : Int) := by omega
          clear hX hdt hne h10
          go_wp2_with fail
          go_roundw
          case rel => exact ⟨pos + k, n + 1, m, rfl, (by rw [show max (m : Int) ((n : Int) + 1) = m by omega]), by go_num, by omega, by omega, by omega, HX⟩
          case measure => simp; omega
    · have hnx : ∀ ty, (Instr.next (.pointer (some ⟨w.heap.size, 0, none⟩)) true ty).run Tryd.prog (w.iter s pos) = _ := fun ty => run_next_end w s pos ty hp
      have hX := HX.out
      rw [List.drop_eq_nil_of_le (by rw [HL.out]; omega), widthL_nil] at hX
      have HX := Lib.hid hX
      clear hX
      go_wp2_with fail
      go_ret
      rw [← HX.out]
      exact ⟨rfl, iter_below w s pos⟩
end Go.Proofs.YtljgpcaljedhpaaDoor
namespace Go.Proofs.YtljgpcaljedhpaaDoor
open Go.RowKit

/-- The text that an operation writes, and the column behind it, as the reference reckons them. -/
theorem rcol_any (c : Int) (t : ByteArray) (hv : Lib.validD t.data.toList = true) : colP c t = (if 0 < lfs t then 0 else c) + (fw t : Int) := feed_col c t hv

theorem valid_spB (k : Nat) : Lib.validD (spB k).data.toList = true := by
  have := lib_spaces k []
  rw [List.append_nil] at this
  rw [this]; rfl

theorem valid_written {x : Op} (h : Valid x) (c : Int) : Lib.validD (writtenP x c).data.toList = true := by
  unfold writtenP
  split
  · exact h.utf
  split
  · exact h.utf
  split
  · exact h.utf
  split
  · exact valid_spB _
  · rfl

theorem bytes_app (o : List UInt8) (t : ByteArray) : (⟨o.toArray⟩ : ByteArray) ++ t = ⟨(o ++ t.data.toList).toArray⟩ := by
  apply ByteArray.ext
  rw [ByteArray.data_append]
  apply Array.toList_inj.1
  simp

set_option maxRecDepth 100000 in
set_option maxHeartbeats 8000000 in
theorem rflat_any {E : World → Prop} (L : LibC E) (A : Option Addr) (l : List Op) (cap : Nat) (w : World) (hE : E w) (hops : OpsIn w A l) (hcap : l.length ≤ cap) (hl : l.length ≤ 60000) (ht : ∀ x ∈ l, x.text.size ≤ 140737488355328) :
    Calls Tryd.prog 15 #[.slice A l.length cap] w (FlatSays l w) := by
  have hck := fun (W1 : World) (hb : Below w.heap.size w W1) => rcheck_any L A l cap W1 (L.below hE hb) (hops.below hb) hcap hl ht
  unfold CheckSays at hck
  obtain ⟨R, hR⟩ : ∃ R, flatP l = R := ⟨_, rfl⟩
  have hpost : ∀ e w', (e = .returned (.tuple #[.string R.1, .int .i64 R.2]) ∧ Below w.heap.size w w') → FlatSays l w e w' := fun e w' h => by rw [← hR] at h; exact h
  refine Calls.mono ?_ hpost
  unfold flatP at hR
  by_cases hc : checkP l = 0
  · rw [if_neg (fun e => e hc)] at hR
    rw [hc] at hck
    obtain ⟨hval, hfew, hsum, hgo⟩ := check_fine hc
    have hok : ∀ x ∈ l, Valid x ∧ x.text.size ≤ 20000 := fun x hx => ⟨hval x hx, Nat.le_trans (bytesSum_mem hx) hsum⟩
    have HCK := Lib.hid hck
    have HO := Lib.hid hops
    have HK := Lib.hid hok
    obtain ⟨F, hF⟩ : ∃ F, flatGo (l.drop 0) [] 0 = F := ⟨_, rfl⟩
    rw [show flatGo l [] 0 = F from hF] at hR
    have HF := Lib.hid hF
    have HR := Lib.hid hR
    have hs0 : (⟨#[]⟩ : ByteArray) = ⟨([] : List UInt8).toArray⟩ := rfl
    clear hck hops hok hc hval hgo hF hR hpost ht
    go_enter Tryd.func15, Tryd.ntmps15
    go_wp2_with (go_at_call 18; refine (HCK.out _ (Below.refl _ _)).mono ?_; rintro e w1 ⟨rfl, hb1⟩)
    have HB1 := Lib.hid hb1
    clear hb1
    go_loopw [5, 6, 7] (fun v5 v6 v7 w' => ∃ (j : Nat) (out : List UInt8) (c : Int), v7 = .int .i64 j ∧ v5 = .string ⟨out.toArray⟩ ∧ v6 = .int .i64 c ∧ j ≤ l.length ∧ out.length ≤ 100000 ∧ 0 ≤ c ∧ c ≤ out.length ∧ Hid (flatGo (l.drop j) out c = F) ∧ Hid (Below w.heap.size w w')) (fun _ _ v7 _ => l.length - (intOf v7).toNat)
    case atStart => exact ⟨0, [], 0, rfl, rfl, rfl, by omega, by simp, by omega, by simp, HF, HB1⟩
    case round =>
      obtain ⟨j, out, c, rfl, rfl, rfl, hj, hout, hc0, hc1, HX, HB⟩ := hrel
      by_cases hlt : j < l.length
      · obtain ⟨⟨k, t, n, m, f⟩, hx⟩ : ∃ x, l[j]? = some x := ⟨_, List.getElem?_eq_getElem hlt⟩
        obtain ⟨hv, hts⟩ := HK.out _ (List.mem_of_getElem? hx)
        obtain ⟨ad, rfl, ho, _⟩ := HO.out.below HB.out (by rintro rfl; simp at hlt)
        obtain ⟨a0, a1, a2, a3, a4⟩ := ho j _ hx
        simp only at a0 a1 a2 a3 a4 hts
        have hdr : l.drop j = ⟨k, t, n, m, f⟩ :: l.drop (j + 1) := by
          rw [List.drop_eq_getElem_cons hlt]
          rw [List.getElem?_eq_getElem hlt] at hx
          injection hx with hx
          rw [hx]
        have hX := HX.out
        rw [hdr] at hX
        unfold flatGo at hX
        have hws := written_size ⟨k, t, n, m, f⟩ c hc0 hv.okOp hts
        have hwv := valid_written hv c
        have hcb := colP_bd c (writtenP ⟨k, t, n, m, f⟩ c) hc0
        have hcol := rcol_any c _ hwv
        have hk := kind_cases hv
        have htb := fun (w : World) (q : k = 5) => rtab_any ⟨k, t, n, m, f⟩ c w hc0 (by omega) (hv.tab q).1 (hv.tab q).2.1 (hv.tab q).2.2.1 (hv.tab q).2.2.2
        have hsb := fun (q : k = 5) => spaces_bd ⟨k, t, n, m, f⟩ c hc0 (hv.tab q).1 (hv.tab q).2.1 (hv.tab q).2.2.1 (hv.tab q).2.2.2
        have hwr : (k = 0 ∨ k = 2 ∨ k = 3) → writtenP ⟨k, t, n, m, f⟩ c = t := by
          rintro (q | q | q)
          · exact written0 q c
          · exact written2 q c
          · exact written3 q c
        have hw5 : k = 5 → writtenP ⟨k, t, n, m, f⟩ c = spB (spacesP ⟨k, t, n, m, f⟩ c).toNat := fun q => written5 q c
        have hw1 : (k = 1 ∨ k = 4) → writtenP ⟨k, t, n, m, f⟩ c = ⟨#[]⟩ := fun q => written14 q c
        simp only at hk htb hsb
        generalize spacesP ⟨k, t, n, m, f⟩ c = sp at *
        generalize writtenP ⟨k, t, n, m, f⟩ c = s at *
        have hfd := fun w => feeds_lf s (by omega) w
        have hfw := fw_le s
        have hlw := lfs_le s
        have hadd := fun W => run_string_add_sum (P := Tryd.prog) W ⟨out.toArray⟩ s (by show out.toArray.size + s.size ≤ _; simp; omega)
        rw [bytes_app] at hadd
        have hsz : (⟨(out ++ s.data.toList).toArray⟩ : ByteArray).size = out.length + s.size := by
          show (out ++ s.data.toList).toArray.size = _
          simp
        have hol : (out ++ s.data.toList).length = out.length + s.size := by rw [List.length_append, data_len]
        rw [hol] at hX
        obtain ⟨N, hN⟩ : ∃ N, out.length + s.size = N := ⟨_, rfl⟩
        rw [hN] at hX hsz hol
        generalize hcc : colP c s = cc at *
        generalize fw s = b at *
        generalize lfs s = a at *
        generalize out ++ s.data.toList = o2 at *
        have HFD := Lib.hid hfd
        have HTB := Lib.hid htb
        have HSB := Lib.hid hsb
        have HX := Lib.hid hX
        have HCOL := Lib.hid hcol
        have HOL := Lib.hid hol
        have HW := Lib.hid hwr
        have HW5 := Lib.hid hw5
        have HW1 := Lib.hid hw1
        clear hfd htb hv hX hcol hdr hx ho hwv hol hwr hw5 hw1 hsb hcc
        rcases hk with rfl | rfl | rfl | rfl | rfl | rfl
        · have e := HW.out (by decide)
          subst e
          clear HTB HSB HW HW5 HW1
          have hX := HX.out
          clear HX
          by_cases hbig : 100000 < N
          · rw [if_pos hbig] at hX
            subst hX
            have hR := HR.out
            subst hR
            have hbig' : (100000 : Int) < (N : Int) := by omega
            clear HR HF
            go_wp2_with (go_at_call 41; refine (HFD.out _).mono ?_; rintro e w' ⟨rfl, rfl⟩)
            go_ret2
            exact ⟨rfl, HB.out⟩
          · rw [if_neg hbig] at hX
            have HX := Lib.hid hX
            have hbig' : ¬ (100000 : Int) < (N : Int) := by omega
            clear hX
            by_cases ha : 0 < a
            · have ha' : (0 : Int) < (a : Int) := by omega
              have hcc : cc = (b : Int) := by have := HCOL.out; rw [if_pos ha] at this; omega
              subst hcc
              clear HCOL ha
              go_wp2_with (go_at_call 41; refine (HFD.out _).mono ?_; rintro e w' ⟨rfl, rfl⟩)
              go_roundw
              case rel => exact ⟨j + 1, o2, _, by go_num, rfl, by go_num, by omega, by have := HOL.out; omega, by omega, by have := HOL.out; omega, HX, HB⟩
              case measure => simp [intOf]; omega
            · have ha' : ¬ (0 : Int) < (a : Int) := by omega
              have hcc : cc = c + (b : Int) := by have := HCOL.out; rw [if_neg ha] at this; omega
              subst hcc
              clear HCOL ha
              go_wp2_with (go_at_call 41; refine (HFD.out _).mono ?_; rintro e w' ⟨rfl, rfl⟩)
              go_roundw
              case rel => exact ⟨j + 1, o2, _, by go_num, rfl, by go_num, by omega, by have := HOL.out; omega, by omega, by have := HOL.out; omega, HX, HB⟩
              case measure => simp [intOf]; omega
        · have e := HW1.out (by decide)
          subst e
          clear HTB HSB HW HW5 HW1
          have hX := HX.out
          clear HX
          by_cases hbig : 100000 < N
          · rw [if_pos hbig] at hX
            subst hX
            have hR := HR.out
            subst hR
            have hbig' : (100000 : Int) < (N : Int) := by omega
            clear HR HF
            go_wp2_with (go_at_call 41; refine (HFD.out _).mono ?_; rintro e w' ⟨rfl, rfl⟩)
            go_ret2
            exact ⟨rfl, HB.out⟩
          · rw [if_neg hbig] at hX
            have HX := Lib.hid hX
            have hbig' : ¬ (100000 : Int) < (N : Int) := by omega
            clear hX
            by_cases ha : 0 < a
            · have ha' : (0 : Int) < (a : Int) := by omega
              have hcc : cc = (b : Int) := by have := HCOL.out; rw [if_pos ha] at this; omega
              subst hcc
              clear HCOL ha
              go_wp2_with (go_at_call 41; refine (HFD.out _).mono ?_; rintro e w' ⟨rfl, rfl⟩)
              go_roundw
              case rel => exact ⟨j + 1, o2, _, by go_num, rfl, by go_num, by omega, by have := HOL.out; omega, by omega, by have := HOL.out; omega, HX, HB⟩
              case measure => simp [intOf]; omega
            · have ha' : ¬ (0 : Int) < (a : Int) := by omega
              have hcc : cc = c + (b : Int) := by have := HCOL.out; rw [if_neg ha] at this; omega
              subst hcc
              clear HCOL ha
              go_wp2_with (go_at_call 41; refine (HFD.out _).mono ?_; rintro e w' ⟨rfl, rfl⟩)
              go_roundw
              case rel => exact ⟨j + 1, o2, _, by go_num, rfl, by go_num, by omega, by have := HOL.out; omega, by omega, by have := HOL.out; omega, HX, HB⟩
              case measure => simp [intOf]; omega
        · have e := HW.out (by decide)
          subst e
          clear HTB HSB HW HW5 HW1
          have hX := HX.out
          clear HX
          by_cases hbig : 100000 < N
          · rw [if_pos hbig] at hX
            subst hX
            have hR := HR.out
            subst hR
            have hbig' : (100000 : Int) < (N : Int) := by omega
            clear HR HF
            go_wp2_with (go_at_call 41; refine (HFD.out _).mono ?_; rintro e w' ⟨rfl, rfl⟩)
            go_ret2
            exact ⟨rfl, HB.out⟩
          · rw [if_neg hbig] at hX
            have HX := Lib.hid hX
            have hbig' : ¬ (100000 : Int) < (N : Int) := by omega
            clear hX
            by_cases ha : 0 < a
            · have ha' : (0 : Int) < (a : Int) := by omega
              have hcc : cc = (b : Int) := by have := HCOL.out; rw [if_pos ha] at this; omega
              subst hcc
              clear HCOL ha
              go_wp2_with (go_at_call 41; refine (HFD.out _).mono ?_; rintro e w' ⟨rfl, rfl⟩)
              go_roundw
              case rel => exact ⟨j + 1, o2, _, by go_num, rfl, by go_num, by omega, by have := HOL.out; omega, by omega, by have := HOL.out; omega, HX, HB⟩
              case measure => simp [intOf]; omega
            · have ha' : ¬ (0 : Int) < (a : Int) := by omega
              have hcc : cc = c + (b : Int) := by have := HCOL.out; rw [if_neg ha] at this; omega
              subst hcc
              clear HCOL ha
              go_wp2_with (go_at_call 41; refine (HFD.out _).mono ?_; rintro e w' ⟨rfl, rfl⟩)
              go_roundw
              case rel => exact ⟨j + 1, o2, _, by go_num, rfl, by go_num, by omega, by have := HOL.out; omega, by omega, by have := HOL.out; omega, HX, HB⟩
              case measure => simp [intOf]; omega
        · have e := HW.out (by decide)
          subst e
          clear HTB HSB HW HW5 HW1
          have hX := HX.out
          clear HX
          by_cases hbig : 100000 < N
          · rw [if_pos hbig] at hX
            subst hX
            have hR := HR.out
            subst hR
            have hbig' : (100000 : Int) < (N : Int) := by omega
            clear HR HF
            go_wp2_with (go_at_call 41; refine (HFD.out _).mono ?_; rintro e w' ⟨rfl, rfl⟩)
            go_ret2
            exact ⟨rfl, HB.out⟩
          · rw [if_neg hbig] at hX
            have HX := Lib.hid hX
            have hbig' : ¬ (100000 : Int) < (N : Int) := by omega
            clear hX
            by_cases ha : 0 < a
            · have ha' : (0 : Int) < (a : Int) := by omega
              have hcc : cc = (b : Int) := by have := HCOL.out; rw [if_pos ha] at this; omega
              subst hcc
              clear HCOL ha
              go_wp2_with (go_at_call 41; refine (HFD.out _).mono ?_; rintro e w' ⟨rfl, rfl⟩)
              go_roundw
              case rel => exact ⟨j + 1, o2, _, by go_num, rfl, by go_num, by omega, by have := HOL.out; omega, by omega, by have := HOL.out; omega, HX, HB⟩
              case measure => simp [intOf]; omega
            · have ha' : ¬ (0 : Int) < (a : Int) := by omega
              have hcc : cc = c + (b : Int) := by have := HCOL.out; rw [if_neg ha] at this; omega
              subst hcc
              clear HCOL ha
              go_wp2_with (go_at_call 41; refine (HFD.out _).mono ?_; rintro e w' ⟨rfl, rfl⟩)
              go_roundw
              case rel => exact ⟨j + 1, o2, _, by go_num, rfl, by go_num, by omega, by have := HOL.out; omega, by omega, by have := HOL.out; omega, HX, HB⟩
              case measure => simp [intOf]; omega
        · have e := HW1.out (by decide)
          subst e
          clear HTB HSB HW HW5 HW1
          have hX := HX.out
          clear HX
          by_cases hbig : 100000 < N
          · rw [if_pos hbig] at hX
            subst hX
            have hR := HR.out
            subst hR
            have hbig' : (100000 : Int) < (N : Int) := by omega
            clear HR HF
            go_wp2_with (go_at_call 41; refine (HFD.out _).mono ?_; rintro e w' ⟨rfl, rfl⟩)
            go_ret2
            exact ⟨rfl, HB.out⟩
          · rw [if_neg hbig] at hX
            have HX := Lib.hid hX
            have hbig' : ¬ (100000 : Int) < (N : Int) := by omega
            clear hX
            by_cases ha : 0 < a
            · have ha' : (0 : Int) < (a : Int) := by omega
              have hcc : cc = (b : Int) := by have := HCOL.out; rw [if_pos ha] at this; omega
              subst hcc
              clear HCOL ha
              go_wp2_with (go_at_call 41; refine (HFD.out _).mono ?_; rintro e w' ⟨rfl, rfl⟩)
              go_roundw
              case rel => exact ⟨j + 1, o2, _, by go_num, rfl, by go_num, by omega, by have := HOL.out; omega, by omega, by have := HOL.out; omega, HX, HB⟩
              case measure => simp [intOf]; omega
            · have ha' : ¬ (0 : Int) < (a : Int) := by omega
              have hcc : cc = c + (b : Int) := by have := HCOL.out; rw [if_neg ha] at this; omega
              subst hcc
              clear HCOL ha
              go_wp2_with (go_at_call 41; refine (HFD.out _).mono ?_; rintro e w' ⟨rfl, rfl⟩)
              go_roundw
              case rel => exact ⟨j + 1, o2, _, by go_num, rfl, by go_num, by omega, by have := HOL.out; omega, by omega, by have := HOL.out; omega, HX, HB⟩
              case measure => simp [intOf]; omega
        · have e := HW5.out rfl
          obtain ⟨s0, s1⟩ := HSB.out rfl
          have h39 := fun w => rspaces_any sp (by omega) w
          rw [← e] at h39
          have H39 := Lib.hid h39
          clear h39 e HW HW5 HW1 HSB
          have hX := HX.out
          clear HX
          by_cases hbig : 100000 < N
          · rw [if_pos hbig] at hX
            subst hX
            have hR := HR.out
            subst hR
            have hbig' : (100000 : Int) < (N : Int) := by omega
            clear HR HF
            go_wp2_with (first | (go_at_call 41; refine (HFD.out _).mono ?_; rintro e w' ⟨rfl, rfl⟩) | (go_at_call 40; refine (HTB.out _ rfl).mono ?_; rintro e w1 ⟨rfl, hb1⟩) | (go_at_call 39; refine (H39.out _).mono ?_; rintro e w2 ⟨rfl, hb2⟩))
            go_ret2
            exact ⟨rfl, (Lib.hid (HB.out.trans ((chain hb1 hb2).mono HB.out.size))).out⟩
          · rw [if_neg hbig] at hX
            have HX := Lib.hid hX
            have hbig' : ¬ (100000 : Int) < (N : Int) := by omega
            clear hX
            by_cases ha : 0 < a
            · have ha' : (0 : Int) < (a : Int) := by omega
              have hcc : cc = (b : Int) := by have := HCOL.out; rw [if_pos ha] at this; omega
              subst hcc
              clear HCOL ha
              go_wp2_with (first | (go_at_call 41; refine (HFD.out _).mono ?_; rintro e w' ⟨rfl, rfl⟩) | (go_at_call 40; refine (HTB.out _ rfl).mono ?_; rintro e w1 ⟨rfl, hb1⟩) | (go_at_call 39; refine (H39.out _).mono ?_; rintro e w2 ⟨rfl, hb2⟩))
              go_roundw
              case rel => exact ⟨j + 1, o2, _, by go_num, rfl, by go_num, by omega, by have := HOL.out; omega, by omega, by have := HOL.out; omega, HX, (Lib.hid (HB.out.trans ((chain hb1 hb2).mono HB.out.size)))⟩
              case measure => simp [intOf]; omega
            · have ha' : ¬ (0 : Int) < (a : Int) := by omega
              have hcc : cc = c + (b : Int) := by have := HCOL.out; rw [if_neg ha] at this; omega
              subst hcc
              clear HCOL ha
              go_wp2_with (first | (go_at_call 41; refine (HFD.out _).mono ?_; rintro e w' ⟨rfl, rfl⟩) | (go_at_call 40; refine (HTB.out _ rfl).mono ?_; rintro e w1 ⟨rfl, hb1⟩) | (go_at_call 39; refine (H39.out _).mono ?_; rintro e w2 ⟨rfl, hb2⟩))
              go_roundw
              case rel => exact ⟨j + 1, o2, _, by go_num, rfl, by go_num, by omega, by have := HOL.out; omega, by omega, by have := HOL.out; omega, HX, (Lib.hid (HB.out.trans ((chain hb1 hb2).mono HB.out.size)))⟩
              case measure => simp [intOf]; omega
      · obtain rfl : j = l.length := by omega
        have hX := HX.out
        rw [List.drop_length] at hX
        unfold flatGo at hX
        subst hX
        have hR := HR.out
        subst hR
        clear HR HF HX
        go_wp2_with fail
        go_ret2
        exact ⟨rfl, HB.out⟩
  · rw [if_pos hc] at hR
    subst hR
    generalize checkP l = c at *
    have hc' : (c == 0) = false := by simpa using hc
    have HCK := Lib.hid hck
    clear hck hops hpost ht hc
    go_enter Tryd.func15, Tryd.ntmps15
    go_wp2_with (go_at_call 18; refine (HCK.out _ (Below.refl _ _)).mono ?_; rintro e w1 ⟨rfl, hb1⟩)
    go_ret2
    exact ⟨rfl, hb1⟩
end Go.Proofs.YtljgpcaljedhpaaDoor
