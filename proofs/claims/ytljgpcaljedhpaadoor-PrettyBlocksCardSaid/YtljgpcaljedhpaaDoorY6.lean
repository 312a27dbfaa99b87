/- PrettyBlocks, walked. -/
import Derived.Test.YtljgpcaljedhpaaDoorY1
import Derived.Test.YtljgpcaljedhpaaDoorY3
import Derived.Test.YtljgpcaljedhpaaDoorP6
import Derived.Test.YtljgpcaljedhpaaDoorMp
import Derived.Test.YtljgpcaljedhpaaDoorLib2
namespace Go.Proofs.YtljgpcaljedhpaaDoor
open Go.RowKit

/-- The cells of a slice of bytes. -/
def BytesIn (w : World) (A : Option Addr) (l : List Nat) : Prop := l ≠ [] → ∃ ad, A = some ad ∧ (∀ (i b : Nat), l[i]? = some b → w.cell? (ad.add i) = some (.int .u8 b)) ∧ ad.block < w.heap.size
theorem BytesIn.below {w w' : World} {A : Option Addr} {l : List Nat} (h : BytesIn w A l) (hb : Below w.heap.size w w') : BytesIn w' A l := fun hne => by
  obtain ⟨ad, e, h1, h2⟩ := h hne
  exact ⟨ad, e, fun i b hx => (hb.cell (by rw [block_of_add]; exact h2)).trans (h1 i b hx), Nat.lt_of_lt_of_le h2 hb.size⟩

/-- The words from a place on, and the end. -/
def wordsW (kind : Nat) (first : Bool) : List Nat → List Op
  | [] => [closeO ⟨#[41]⟩]
  | k :: r => (if first = true ∨ kind = 1 then [] else [textO ⟨#[32]⟩, newlineO (kind : Int)]) ++ textO (wB k) :: wordsW kind false r
def lenW (kind : Nat) (first : Bool) : List Nat → Nat
  | [] => 0
  | k :: r => (if first = true ∨ kind = 1 then 0 else 1) + (1 + k % 5) + lenW kind false r
theorem wordsW_tail (kind : Nat) : ∀ r, wordsW kind false r = tailP kind r
  | [] => rfl
  | k :: r => by
    unfold wordsW tailP
    rw [wordsW_tail kind r]
    by_cases h : kind = 1
    · rw [if_pos (.inr h), if_pos h]
    · rw [if_neg (by simp [h]), if_neg h]
theorem lenW_tail (kind : Nat) : ∀ r, lenW kind false r + 1 = tailLen kind r
  | [] => rfl
  | k :: r => by
    unfold lenW tailLen
    rw [← lenW_tail kind r]
    by_cases h : kind = 1
    · rw [if_pos (.inr h), if_pos h]; omega
    · rw [if_neg (by simp [h]), if_neg h]; omega
theorem blocks_words (kind p k : Nat) (r : List Nat) : blocksP kind p k r = [textO (repB 112 p), openO ⟨#[40]⟩] ++ wordsW kind true (k :: r) := by
  unfold blocksP wordsW
  rw [wordsW_tail, if_pos (.inl rfl)]
  rfl
theorem blocks_len (kind p k : Nat) (r : List Nat) : p + 1 + (1 + k % 5) + tailLen kind r = p + 2 + lenW kind true (k :: r) := by
  unfold lenW
  rw [← lenW_tail, if_pos (.inl rfl)]
  omega

theorem rep_w (b : Nat) (w : World) : Calls Tryd.prog 8 #[.string ⟨#[119]⟩, .int .i64 (1 + (b : Int) % 5)] w fun e w' => e = .returned (.string (wB b)) ∧ Below w.heap.size w w' := by
  have h := Tryd.strings_Repeat ⟨#[119]⟩ (1 + b % 5) w (by omega) (by show 1 * (1 + b % 5) ≤ _; omega)
  rw [show ((1 + b % 5 : Nat) : Int) = 1 + (b : Int) % 5 by push_cast; rfl] at h
  exact h
theorem rep_p (b : Nat) (w : World) : Calls Tryd.prog 8 #[.string ⟨#[112]⟩, .int .i64 ((b : Int) % 20)] w fun e w' => e = .returned (.string (repB 112 (b % 20))) ∧ Below w.heap.size w w' := by
  have h := Tryd.strings_Repeat ⟨#[112]⟩ (b % 20) w (by omega) (by show 1 * (b % 20) ≤ _; omega)
  rw [show ((b % 20 : Nat) : Int) = (b : Int) % 20 by push_cast; rfl] at h
  exact h

theorem own_alloc (w : World) (l : List Op) (hl : l.length ≤ maxLen) : (w.alloc (.cells (opsC l).toArray 26)).ownsRow w.heap.size 26 5 (.slice (some ⟨w.heap.size, 0, none⟩) l.length l.length) l.length (opsC l) :=
  ⟨opsC_len l, .inr ⟨w.heap.size, l.length, _, rfl, Nat.le_refl _, heap_alloc_new w _, Nat.le_refl _, hl, by simp [opsC_len], by rw [List.take_of_length_le (by simp [opsC_len])]⟩⟩

theorem drop_words {l : List Nat} {i b : Nat} (h : l[i]? = some b) (kind : Nat) (f : Bool) : wordsW kind f (l.drop i) = (if f = true ∨ kind = 1 then [] else [textO ⟨#[32]⟩, newlineO (kind : Int)]) ++ textO (wB b) :: wordsW kind false (l.drop (i + 1)) ∧
    lenW kind f (l.drop i) = (if f = true ∨ kind = 1 then 0 else 1) + (1 + b % 5) + lenW kind false (l.drop (i + 1)) := by
  have hlt := (List.getElem?_eq_some_iff.1 h).1
  rw [List.drop_eq_getElem_cons hlt, (List.getElem?_eq_some_iff.1 h).2]
  exact ⟨rfl, rfl⟩

set_option linter.unusedSimpArgs false in
set_option maxRecDepth 100000 in
set_option maxHeartbeats 8000000 in
theorem blocks_any (A : Option Addr) (k : Nat) (r : List Nat) (cap wd ms ah : Nat) (w : World) (hE : Env w) (hin : BytesIn w A (k :: r)) (hb : ∀ x ∈ k :: r, x < 256) (hcap : (k :: r).length ≤ cap)
    (hr : r.length ≤ 19) (hr1 : r ≠ []) (hwd : wd < 256) (hms : ms < 256) (hah : ah < 256) :
    Calls Tryd.prog 3 #[.slice A (k :: r).length cap, .int .u8 wd, .int .u8 ms, .int .u8 ah] w fun e w' => e = .returned (.bool true) ∧ Below w.heap.size w w' := by
  have HAW := Lib.hid (@awake_any Env libC libS)
  have HE := Lib.hid hE
  have HIN := Lib.hid hin
  have HB := Lib.hid hb
  obtain ⟨t26, ti0, ti1, ti2, ti3⟩ := info_parts info26
  have T0 := Lib.hid ti0
  have T1 := Lib.hid ti1
  have T2 := Lib.hid ti2
  have T3 := Lib.hid ti3
  obtain ⟨l, hl⟩ : ∃ l, k :: r = l := ⟨_, rfl⟩
  have hll : l.length = r.length + 1 := by rw [← hl]; rfl
  have hr0 : 0 < r.length := List.length_pos_iff.2 hr1
  rw [hl] at HIN HB hcap ⊢
  have l1 : ¬ ((l.length : Int) < 2) := by omega
  have l2 : ¬ (20 : Int) < (l.length : Int) := by omega
  have e1 : IntKind.i64.wrap (1 + (wd : Int) % 80) = 1 + (wd : Int) % 80 := IntWalk.i64_in _ (by omega)
  have w' : (0 : Int) ≤ (wd : Int) := Int.natCast_nonneg _
  have m' : (0 : Int) ≤ (ms : Int) := Int.natCast_nonneg _
  have a' : (0 : Int) ≤ (ah : Int) := Int.natCast_nonneg _
  have w2 : (wd : Int) < 256 := by omega
  have m2 : (ms : Int) < 256 := by omega
  have a2 : (ah : Int) < 256 := by omega
  have HL := Lib.hid hl
  have HLL := Lib.hid hll
  have HR := Lib.hid hr
  have HR0 := Lib.hid hr0
  clear ti0 ti1 ti2 ti3 hE hin hb hl hll hr hr0 hr1
  go_enter Tryd.func3, Tryd.ntmps3
  go_wp2_with fail
  go_loopw [41] (fun v41 w' => ∃ (j : Nat), v41 = .int .i64 j ∧ j ≤ 4 ∧ Hid (Below w.heap.size w w')) (fun v41 _ => 4 - (intOf v41).toNat)
  case atStart => exact ⟨0, rfl, by omega, Lib.hid (Below.refl _ _)⟩
  case round =>
    obtain ⟨j, rfl, hj, HBE⟩ := hrel
    by_cases hlt : j < 4
    · have e2 : IntKind.i64.wrap ((ah : Int) % 20 + 2) = (ah : Int) % 20 + 2 := IntWalk.i64_in _ (by omega)
      go_wp2_with (go_at_call 8; refine (rep_p _ _).mono ?_; rintro e w1 ⟨rfl, hb1⟩; have HB1 := Lib.hid (HBE.out.trans (hb1.mono HBE.out.size)); clear hb1)
      have hown := own_alloc w1 [textO (repB 112 (ah % 20)), openO ⟨#[40]⟩] (show 2 ≤ maxLen by decide)
      obtain ⟨Z, hZ⟩ : ∃ Z, w1.alloc (.cells #[.int .i64 0, .string (repB 112 (ah % 20)), .int .i64 0, .int .i64 0, .bool false, .int .i64 2, .string ⟨#[40]⟩, .int .i64 0, .int .i64 0, .bool false] 26) = Z := ⟨_, rfl⟩
      have hzb : Below w1.heap.size w1 Z := by rw [← hZ]; exact new1 w1 _
      have hzo : Z.ownsRow w1.heap.size 26 5 (.slice (some ⟨w1.heap.size, 0, none⟩) 2 2) 2 (opsC [textO (repB 112 (ah % 20)), openO ⟨#[40]⟩]) := by rw [← hZ]; exact hown
      rw [hZ]
      have HZB := Lib.hid hzb
      have HZO := Lib.hid hzo
      clear hown hZ hzb hzo
      have hp20 : ah % 20 < 20 := Nat.mod_lt _ (by decide)
      go_loopw [13, 14, 53] (fun v13 v14 v53 w' => ∃ (i size : Nat) (done : List Op), v53 = .int .i64 i ∧ v14 = .int .i64 size ∧ i ≤ l.length ∧ size ≤ 21 + 6 * i ∧ Hid (done.length ≤ 2 + 3 * i) ∧ Hid ([textO (repB 112 (ah % 20)), openO ⟨#[40]⟩] ++ wordsW j true l = done ++ wordsW j (decide (i = 0)) (l.drop i)) ∧ Hid (size + lenW j (decide (i = 0)) (l.drop i) = ah % 20 + 2 + lenW j true l) ∧ Hid (w'.ownsRow w1.heap.size 26 5 v13 done.length (opsC done)) ∧ Hid (Below w1.heap.size w1 w')) (fun _ _ v53 _ => l.length - (intOf v53).toNat)
      case atStart => exact ⟨0, ah % 20 + 2, [textO (repB 112 (ah % 20)), openO ⟨#[40]⟩], rfl, by simp, by omega, by omega, Lib.hid (show 2 ≤ 2 + 3 * 0 by decide), Lib.hid rfl, Lib.hid rfl, HZO, HZB⟩
      case round =>
        obtain ⟨i, size, done, rfl, rfl, hi, hsz, HDL, HM, HS, HOW, HBL⟩ := hrel
        have hl20 : l.length ≤ 20 := by have := HLL.out; have := HR.out; omega
        have hdl := HDL.out
        by_cases hil : i < l.length
        · obtain ⟨b, hx⟩ : ∃ b, l[i]? = some b := ⟨_, List.getElem?_eq_getElem hil⟩
          have hb := HB.out _ (List.mem_of_getElem? hx)
          obtain ⟨ad, rfl, hat, _⟩ := HIN.out.below (HB1.out.trans (HBL.out.mono HB1.out.size)) (by rintro rfl; simp at hil)
          have a0 := hat i b hx
          obtain ⟨d1, d2⟩ := drop_words hx j (decide (i = 0))
          have hM := HM.out
          have hS := HS.out
          rw [d1] at hM
          rw [d2] at hS
          have b0 : (0 : Int) ≤ (b : Int) := Int.natCast_nonneg _
          have b1 : (b : Int) < 256 := by omega
          have s0 : (0 : Int) ≤ (size : Int) := Int.natCast_nonneg _
          have s1 : (size : Int) ≤ 1000 := by omega
          have hwl : ((wB b).size : Int) = 1 + (b : Int) % 5 := by have e : (wB b).size = (wB b).data.toList.length := rfl; rw [e, wB_len]; push_cast; rfl
          have e5 : IntKind.i64.wrap (1 + (b : Int) % 5) = 1 + (b : Int) % 5 := IntWalk.i64_in _ (by omega)
          have e6 : IntKind.i64.wrap ((size : Int) + (1 + (b : Int) % 5)) = (size : Int) + (1 + (b : Int) % 5) := IntWalk.i64_in _ (by omega)
          have e7 : IntKind.i64.wrap ((size : Int) + (1 + (b : Int) % 5) + 1) = (size : Int) + (1 + (b : Int) % 5) + 1 := IntWalk.i64_in _ (by omega)
          clear hx hat d1 d2
          by_cases hi0 : i = 0
          · subst hi0
            have a0' : wr.cell? ad = some (.int .u8 b) := by simpa [Addr.add] using a0
            rw [if_pos (.inl (by decide)), List.nil_append] at hM
            rw [if_pos (.inl (by decide))] at hS
            have HM5 := Lib.hid hM
            have HS5 := Lib.hid hS
            clear hM hS
            go_wp2_with (first | (go_at_call 8; refine (rep_w _ _).mono ?_; rintro e w2 ⟨rfl, hb2⟩; have HO2 := Lib.hid (own_below HOW.out hb2); have HB2 := Lib.hid (HBL.out.trans (hb2.mono HBL.out.size)); clear hb2) | (at_builtin; refine wpList_append_own _ rfl _ _ 27 rfl w1.heap.size 26 t26 _ 5 48 Tryd.underlying27 T0.out T1.out T2.out T3.out rfl (by decide) _ _ _ rfl (HO2.out.alloc _) _ 1 1 (opsC [textO (wB b)]) rfl rfl ?c1 ?c2 ?c3 ?c4 ?c5 ?_))
            case c1 =>
              intro jj u h
              rw [add_plain]
              try rw [Nat.zero_add]
              exact (blk_cell (heap_alloc_new w2 _) jj).trans (by simpa [opsC, opC, textO, newlineO, closeO] using h)
            case c2 => intro u hu; simp [opsC, opC, textO, newlineO, openO, closeO] at hu; rcases hu with rfl | rfl | rfl | rfl | rfl | rfl | rfl | rfl | rfl | rfl <;> rfl
            case c3 => unfold maxLen; omega
            case c4 => omega
            case c5 => have := HB2.out.size; first | omega | (simp; omega)
            intro v5 w5 hown5 hgrow5 _
            obtain ⟨hr5, hb5⟩ := ops_push (xs := [textO (wB b)]) HB2.out (new1 _ _) HO2.out hown5 hgrow5
            have HR5 := Lib.hid hr5
            have HB5 := Lib.hid hb5
            clear hr5 hb5 hown5 hgrow5
            go_wp2_with fail
            go_roundw
            case rel => exact ⟨1, size + (1 + b % 5), done ++ [textO (wB b)], by go_num, by push_cast; rfl, by omega, by omega, Lib.hid (by simp; omega), Lib.hid (by have := HM5.out; simpa using this), Lib.hid (by have := HS5.out; simp at this ⊢; omega), HR5, HB5⟩
            case measure => (first | omega | (simp [intOf]; omega))
          · have hi1 : (0 : Int) < (i : Int) := by omega
            by_cases hj1 : j = 1
            · have hjb : ((j : Int) == 1) = true := by rw [hj1]; rfl
              rw [if_pos (.inr hj1), List.nil_append] at hM
              rw [if_pos (.inr hj1)] at hS
              clear hj1
              have HM5 := Lib.hid hM
              have HS5 := Lib.hid hS
              clear hM hS
              go_wp2_with (first | (go_at_call 8; refine (rep_w _ _).mono ?_; rintro e w2 ⟨rfl, hb2⟩; have HO2 := Lib.hid (own_below HOW.out hb2); have HB2 := Lib.hid (HBL.out.trans (hb2.mono HBL.out.size)); clear hb2) | (at_builtin; refine wpList_append_own _ rfl _ _ 27 rfl w1.heap.size 26 t26 _ 5 48 Tryd.underlying27 T0.out T1.out T2.out T3.out rfl (by decide) _ _ _ rfl (HO2.out.alloc _) _ 1 1 (opsC [textO (wB b)]) rfl rfl ?c1 ?c2 ?c3 ?c4 ?c5 ?_))
              case c1 =>
                intro jj u h
                rw [add_plain]
                try rw [Nat.zero_add]
                exact (blk_cell (heap_alloc_new w2 _) jj).trans (by simpa [opsC, opC, textO, newlineO, closeO] using h)
              case c2 => intro u hu; simp [opsC, opC, textO, newlineO, openO, closeO] at hu; rcases hu with rfl | rfl | rfl | rfl | rfl | rfl | rfl | rfl | rfl | rfl <;> rfl
              case c3 => unfold maxLen; omega
              case c4 => omega
              case c5 => have := HB2.out.size; first | omega | (simp; omega)
              intro v5 w5 hown5 hgrow5 _
              obtain ⟨hr5, hb5⟩ := ops_push (xs := [textO (wB b)]) HB2.out (new1 _ _) HO2.out hown5 hgrow5
              have HR5 := Lib.hid hr5
              have HB5 := Lib.hid hb5
              clear hr5 hb5 hown5 hgrow5
              go_wp2_with fail
              go_roundw
              case rel => exact ⟨i + 1, size + (1 + b % 5), done ++ [textO (wB b)], by go_num, by push_cast; rfl, by omega, by omega, Lib.hid (by simp; omega), Lib.hid (by have := HM5.out; simpa using this), Lib.hid (by have := HS5.out; simp at this ⊢; omega), HR5, HB5⟩
              case measure => (first | omega | (simp [intOf]; omega))
            · have hj2 : ¬ (j : Int) = 1 := by omega
              rw [if_neg (by simp [hi0, hj1])] at hM
              rw [if_neg (by simp [hi0, hj1])] at hS
              have HM5 := Lib.hid hM
              have HS5 := Lib.hid hS
              clear hM hS
              go_wp2_with (first | (go_at_call 8; refine (rep_w _ _).mono ?_; rintro e w2 ⟨rfl, hb2⟩; have HO2 := Lib.hid (own_below HOW.out hb2); have HB2 := Lib.hid (HBL.out.trans (hb2.mono HBL.out.size)); clear hb2) | (at_builtin; refine wpList_append_own _ rfl _ _ 27 rfl w1.heap.size 26 t26 _ 5 48 Tryd.underlying27 T0.out T1.out T2.out T3.out rfl (by decide) _ _ _ rfl (HO2.out.alloc _) _ 2 2 (opsC [textO ⟨#[32]⟩, newlineO (j : Int)]) rfl rfl ?c1 ?c2 ?c3 ?c4 ?c5 ?_))
              case c1 =>
                intro jj u h
                rw [add_plain]
                try rw [Nat.zero_add]
                exact (blk_cell (heap_alloc_new w2 _) jj).trans (by simpa [opsC, opC, textO, newlineO, closeO] using h)
              case c2 => intro u hu; simp [opsC, opC, textO, newlineO, openO, closeO] at hu; rcases hu with rfl | rfl | rfl | rfl | rfl | rfl | rfl | rfl | rfl | rfl <;> rfl
              case c3 => unfold maxLen; omega
              case c4 => omega
              case c5 => have := HB2.out.size; first | omega | (simp; omega)
              intro v5 w5 hown5 hgrow5 _
              obtain ⟨hr5, hb5⟩ := ops_push (xs := [textO ⟨#[32]⟩, newlineO (j : Int)]) HB2.out (new1 _ _) HO2.out hown5 hgrow5
              have HR5 := Lib.hid hr5
              have HB5 := Lib.hid hb5
              have hdl5 : (done ++ [textO ⟨#[32]⟩, newlineO (j : Int)]).length ≤ 4 + 3 * i := by simp; omega
              clear hr5 hb5 hown5 hgrow5
              go_wp2_with (at_builtin; refine wpList_append_own _ rfl _ _ 27 rfl w1.heap.size 26 t26 _ 5 48 Tryd.underlying27 T0.out T1.out T2.out T3.out rfl (by decide) _ _ _ rfl (HR5.out.alloc _) _ 1 1 (opsC [textO (wB b)]) rfl rfl ?c1 ?c2 ?c3 ?c4 ?c5 ?_)
              case c1 =>
                intro jj u h
                rw [add_plain]
                try rw [Nat.zero_add]
                exact (blk_cell (heap_alloc_new w5 _) jj).trans (by simpa [opsC, opC, textO, newlineO, closeO] using h)
              case c2 => intro u hu; simp [opsC, opC, textO, newlineO, openO, closeO] at hu; rcases hu with rfl | rfl | rfl | rfl | rfl | rfl | rfl | rfl | rfl | rfl <;> rfl
              case c3 => unfold maxLen; omega
              case c4 => omega
              case c5 => have := HB5.out.size; first | omega | (simp; omega)
              intro v6 w6 hown6 hgrow6 _
              obtain ⟨hr6, hb6⟩ := ops_push (xs := [textO (wB b)]) HB5.out (new1 _ _) HR5.out (by rw [List.length_append]; exact hown6) hgrow6
              have HR6 := Lib.hid hr6
              have HB6 := Lib.hid hb6
              clear hr6 hb6 hown6 hgrow6
              go_wp2_with fail
              go_roundw
              case rel => exact ⟨i + 1, size + (1 + b % 5) + 1, (done ++ [textO ⟨#[32]⟩, newlineO (j : Int)]) ++ [textO (wB b)], by go_num, by push_cast; rfl, by omega, by omega, Lib.hid (by simp; omega), Lib.hid (by have := HM5.out; simpa using this), Lib.hid (by have := HS5.out; simp at this ⊢; omega), HR6, HB6⟩
              case measure => (first | omega | (simp [intOf]; omega))
        · obtain rfl : i = l.length := by omega
          have hM := HM.out
          have hS := HS.out
          rw [List.drop_length] at hM hS
          have hM : [textO (repB 112 (ah % 20)), openO ⟨#[40]⟩] ++ wordsW j true l = done ++ [closeO ⟨#[41]⟩] := hM
          have hS : size + 0 = ah % 20 + 2 + lenW j true l := hS
          rw [← HL.out, ← blocks_words] at hM
          rw [← HL.out, ← blocks_len, Nat.add_zero] at hS
          have hck := blocks_check j (ah % 20) k r hlt hp20 HR.out
          have w0 : (0 : Int) ≤ (wd : Int) % 80 := by omega
          obtain ⟨st, hro, hct⟩ := blocks_law j (ah % 20) k r (1 + (wd : Int) % 80) ((ms : Int) % 81) hlt hp20 HR.out (List.length_pos_iff.1 HR0.out) (by omega) (by omega) (by omega) (by omega)
          rw [← hS] at hct
          generalize blocksP j (ah % 20) k r = X at *
          have hXl := hck.2
          have hXt : ∀ x ∈ X, x.text.size ≤ 140737488355328 := fun x hx => by have h1 := (check_fine hck.1).2.2.1; have h2 := bytesSum_mem hx; omega
          have HRX := Lib.hid (fun (A : Option Addr) (cap : Nat) (W : World) hE hO hc => render_ok libC A X cap _ _ st W hE hO hc (by omega) hXt hro)
          have HX := Lib.hid hM
          have HCT := Lib.hid hct
          have s0 : (0 : Int) ≤ (size : Int) := Int.natCast_nonneg _
          have s1 : (size : Int) ≤ 1000 := by omega
          have e8 : IntKind.i64.wrap (1 + (wd : Int) % 80 - (ah : Int) % 20) = 1 + (wd : Int) % 80 - (ah : Int) % 20 := IntWalk.i64_in _ (by omega)
          have e9 : IntKind.i64.wrap (1 + (wd : Int) % 80 - (ah : Int) % 20 - 1) = 1 + (wd : Int) % 80 - (ah : Int) % 20 - 1 := IntWalk.i64_in _ (by omega)
          have e10 : IntKind.i64.wrap ((l.length : Int) - 1) = (l.length : Int) - 1 := IntWalk.i64_in _ (by omega)
          clear hM hS hck hro hct hXt HM HS
          go_wp2_with (at_builtin; refine wpList_append_own _ rfl _ _ 27 rfl w1.heap.size 26 t26 _ 5 48 Tryd.underlying27 T0.out T1.out T2.out T3.out rfl (by decide) _ _ _ rfl (HOW.out.alloc _) _ 1 1 (opsC [closeO ⟨#[41]⟩]) rfl rfl ?c1 ?c2 ?c3 ?c4 ?c5 ?_)
          case c1 =>
            intro jj u h
            rw [add_plain]
            try rw [Nat.zero_add]
            exact (blk_cell (heap_alloc_new wr _) jj).trans (by simpa [opsC, opC, textO, newlineO, closeO] using h)
          case c2 => intro u hu; simp [opsC, opC, textO, newlineO, openO, closeO] at hu; rcases hu with rfl | rfl | rfl | rfl | rfl | rfl | rfl | rfl | rfl | rfl <;> rfl
          case c3 => unfold maxLen; omega
          case c4 => omega
          case c5 => have := HBL.out.size; first | omega | (simp; omega)
          intro v5 w5 hown5 hgrow5 _
          obtain ⟨hr5, hb5⟩ := ops_push (xs := [closeO ⟨#[41]⟩]) HBL.out (new1 _ _) HOW.out hown5 hgrow5
          rw [← HX.out] at hr5
          obtain ⟨A5, c5, rfl⟩ := own_slice hr5
          obtain ⟨_, hc5, hO5⟩ := own_ops hr5
          have HO5 := Lib.hid hO5
          have HC5 := Lib.hid hc5
          have HB5 := Lib.hid (HB1.out.trans (hb5.mono HB1.out.size))
          clear hr5 hb5 hown5 hgrow5 hO5 hc5
          have hmk : ∀ (w : World), (Instr.makeMap 31 none).run Tryd.prog w = .ok (.map (some w.heap.size)) (w.alloc (.map #[] 0)) := fun w => run_makeMap 31 w
          by_cases hLw : 1 + (wd : Int) % 80 < (size : Int)
          · by_cases hMi : 1 + (wd : Int) % 80 - (ah : Int) % 20 - 1 ≤ (ms : Int) % 81
            · skip
              have M1 := fun w => map1 w true
              have M2 := fun w => map2 w true true
              have M3 := fun w => map3 w true true
              obtain ⟨g, hg⟩ : ∃ g, mapGet true true j = g := ⟨_, rfl⟩
              have MG : ∀ w : World, (Instr.lookup 31 (.map (some w.heap.size)) (.int .i64 (j : Int)) false).run Tryd.prog (w.alloc (.map (mapE true true) 3)) = .ok (.bool g) (w.alloc (.map (mapE true true) 3)) := fun w => by rw [← hg]; exact map_get w true true j hlt
              have hct : st.out.count 10 = if g = true then r.length else 0 := by
                rw [HCT.out, decide_eq_true hLw, decide_eq_true (show 1 + (wd : Int) % 80 - ((ah % 20 : Nat) : Int) - 1 ≤ (ms : Int) % 81 by omega), ← hg]
                have hj4 : j = 0 ∨ j = 1 ∨ j = 2 ∨ j = 3 := by omega
                clear hg MG
                rcases hj4 with h | h | h | h <;> rw [h] <;> simp [brk, mapGet]
              clear hg
              have HCN := Lib.hid (libC.cnt ⟨st.out.toArray⟩)
              unfold Lib.countByte at HCN
              rw [show (⟨st.out.toArray⟩ : ByteArray).data.toList = st.out by simp, hct] at HCN
              have hll := HLL.out
              have hr0 := HR0.out
              clear hct
              cases g
              · rw [if_neg (by decide)] at HCN
                have HCN : Hid (∀ w : World, Calls Tryd.prog 10 #[.string ⟨st.out.toArray⟩, .string ⟨#[10]⟩] w fun e w' => e = .returned (.int .i64 0) ∧ w = w') := HCN
                clear hll hr0
                go_wp2_with (first | (go_at_call 9; (with_reducible refine (HRX.out _ _ _ (env_below HE.out HB5.out) HO5.out HC5.out).mono ?_); rintro e w6 ⟨rfl, hb6⟩; have HB6 := Lib.hid (HB5.out.trans (hb6.mono HB5.out.size)); clear hb6) | (go_at_call 10; (with_reducible refine (HCN.out _).mono ?_); rintro e w7 ⟨rfl, rfl⟩))
                go_roundw
                case rel => exact ⟨j + 1, by go_num, by omega, Lib.hid (HB6.out.trans ((new1 _ _).mono HB6.out.size))⟩
                case measure => (first | omega | (simp [intOf]; omega))
              · rw [if_pos rfl, show (r.length : Int) = (l.length : Int) - 1 by omega] at HCN
                clear hll hr0
                go_wp2_with (first | (go_at_call 9; (with_reducible refine (HRX.out _ _ _ (env_below HE.out HB5.out) HO5.out HC5.out).mono ?_); rintro e w6 ⟨rfl, hb6⟩; have HB6 := Lib.hid (HB5.out.trans (hb6.mono HB5.out.size)); clear hb6) | (go_at_call 10; (with_reducible refine (HCN.out _).mono ?_); rintro e w7 ⟨rfl, rfl⟩))
                go_roundw
                case rel => exact ⟨j + 1, by go_num, by omega, Lib.hid (HB6.out.trans ((new1 _ _).mono HB6.out.size))⟩
                case measure => (first | omega | (simp [intOf]; omega))
            · skip
              have hd2 : decide (1 + (wd : Int) % 80 - (ah : Int) % 20 - 1 ≤ (ms : Int) % 81) = false := decide_eq_false hMi
              have M2' : ∀ w : World, (Instr.mapUpdate 31 (.map (some w.heap.size)) (.int .i64 2) (.bool (decide (1 + (wd : Int) % 80 - (ah : Int) % 20 - 1 ≤ (ms : Int) % 81)))).run Tryd.prog (w.alloc (.map #[{ key := .int .i64 0, val := .bool true, born := 0 }] 1)) = .ok () (w.alloc (.map #[{ key := .int .i64 0, val := .bool true, born := 0 }, { key := .int .i64 2, val := .bool false, born := 1 }] 2)) := fun w => by rw [hd2]; exact map2 w true false
              have M1 := fun w => map1 w true
              have M2 := fun w => map2 w true false
              have M3 := fun w => map3 w true false
              obtain ⟨g, hg⟩ : ∃ g, mapGet true false j = g := ⟨_, rfl⟩
              have MG : ∀ w : World, (Instr.lookup 31 (.map (some w.heap.size)) (.int .i64 (j : Int)) false).run Tryd.prog (w.alloc (.map (mapE true false) 3)) = .ok (.bool g) (w.alloc (.map (mapE true false) 3)) := fun w => by rw [← hg]; exact map_get w true false j hlt
              have hct : st.out.count 10 = if g = true then r.length else 0 := by
                rw [HCT.out, decide_eq_true hLw, decide_eq_false (show ¬ 1 + (wd : Int) % 80 - ((ah % 20 : Nat) : Int) - 1 ≤ (ms : Int) % 81 by omega), ← hg]
                have hj4 : j = 0 ∨ j = 1 ∨ j = 2 ∨ j = 3 := by omega
                clear hg MG
                rcases hj4 with h | h | h | h <;> rw [h] <;> simp [brk, mapGet]
              clear hg
              have HCN := Lib.hid (libC.cnt ⟨st.out.toArray⟩)
              unfold Lib.countByte at HCN
              rw [show (⟨st.out.toArray⟩ : ByteArray).data.toList = st.out by simp, hct] at HCN
              have hll := HLL.out
              have hr0 := HR0.out
              clear hct
              cases g
              · rw [if_neg (by decide)] at HCN
                have HCN : Hid (∀ w : World, Calls Tryd.prog 10 #[.string ⟨st.out.toArray⟩, .string ⟨#[10]⟩] w fun e w' => e = .returned (.int .i64 0) ∧ w = w') := HCN
                clear hll hr0
                go_wp2_with (first | (go_at_call 9; (with_reducible refine (HRX.out _ _ _ (env_below HE.out HB5.out) HO5.out HC5.out).mono ?_); rintro e w6 ⟨rfl, hb6⟩; have HB6 := Lib.hid (HB5.out.trans (hb6.mono HB5.out.size)); clear hb6) | (go_at_call 10; (with_reducible refine (HCN.out _).mono ?_); rintro e w7 ⟨rfl, rfl⟩))
                go_roundw
                case rel => exact ⟨j + 1, by go_num, by omega, Lib.hid (HB6.out.trans ((new1 _ _).mono HB6.out.size))⟩
                case measure => (first | omega | (simp [intOf]; omega))
              · rw [if_pos rfl, show (r.length : Int) = (l.length : Int) - 1 by omega] at HCN
                clear hll hr0
                go_wp2_with (first | (go_at_call 9; (with_reducible refine (HRX.out _ _ _ (env_below HE.out HB5.out) HO5.out HC5.out).mono ?_); rintro e w6 ⟨rfl, hb6⟩; have HB6 := Lib.hid (HB5.out.trans (hb6.mono HB5.out.size)); clear hb6) | (go_at_call 10; (with_reducible refine (HCN.out _).mono ?_); rintro e w7 ⟨rfl, rfl⟩))
                go_roundw
                case rel => exact ⟨j + 1, by go_num, by omega, Lib.hid (HB6.out.trans ((new1 _ _).mono HB6.out.size))⟩
                case measure => (first | omega | (simp [intOf]; omega))
          · skip
            have hd1 : decide (1 + (wd : Int) % 80 < (size : Int)) = false := decide_eq_false hLw
            have M1' : ∀ w : World, (Instr.mapUpdate 31 (.map (some w.heap.size)) (.int .i64 0) (.bool (decide (1 + (wd : Int) % 80 < (size : Int))))).run Tryd.prog (w.alloc (.map #[] 0)) = .ok () (w.alloc (.map #[{ key := .int .i64 0, val := .bool false, born := 0 }] 1)) := fun w => by rw [hd1]; exact map1 w false
            have M1 := fun w => map1 w false
            have M2 := fun w => map2 w false false
            have M3 := fun w => map3 w false false
            obtain ⟨g, hg⟩ : ∃ g, mapGet false false j = g := ⟨_, rfl⟩
            have MG : ∀ w : World, (Instr.lookup 31 (.map (some w.heap.size)) (.int .i64 (j : Int)) false).run Tryd.prog (w.alloc (.map (mapE false false) 3)) = .ok (.bool g) (w.alloc (.map (mapE false false) 3)) := fun w => by rw [← hg]; exact map_get w false false j hlt
            have hct : st.out.count 10 = if g = true then r.length else 0 := by
              rw [HCT.out, decide_eq_false hLw, ← hg]
              have hj4 : j = 0 ∨ j = 1 ∨ j = 2 ∨ j = 3 := by omega
              clear hg MG
              rcases hj4 with h | h | h | h <;> rw [h] <;> simp [brk, mapGet]
            clear hg
            have HCN := Lib.hid (libC.cnt ⟨st.out.toArray⟩)
            unfold Lib.countByte at HCN
            rw [show (⟨st.out.toArray⟩ : ByteArray).data.toList = st.out by simp, hct] at HCN
            have hll := HLL.out
            have hr0 := HR0.out
            clear hct
            cases g
            · rw [if_neg (by decide)] at HCN
              have HCN : Hid (∀ w : World, Calls Tryd.prog 10 #[.string ⟨st.out.toArray⟩, .string ⟨#[10]⟩] w fun e w' => e = .returned (.int .i64 0) ∧ w = w') := HCN
              clear hll hr0
              go_wp2_with (first | (go_at_call 9; (with_reducible refine (HRX.out _ _ _ (env_below HE.out HB5.out) HO5.out HC5.out).mono ?_); rintro e w6 ⟨rfl, hb6⟩; have HB6 := Lib.hid (HB5.out.trans (hb6.mono HB5.out.size)); clear hb6) | (go_at_call 10; (with_reducible refine (HCN.out _).mono ?_); rintro e w7 ⟨rfl, rfl⟩))
              go_roundw
              case rel => exact ⟨j + 1, by go_num, by omega, Lib.hid (HB6.out.trans ((new1 _ _).mono HB6.out.size))⟩
              case measure => (first | omega | (simp [intOf]; omega))
            · rw [if_pos rfl, show (r.length : Int) = (l.length : Int) - 1 by omega] at HCN
              clear hll hr0
              go_wp2_with (first | (go_at_call 9; (with_reducible refine (HRX.out _ _ _ (env_below HE.out HB5.out) HO5.out HC5.out).mono ?_); rintro e w6 ⟨rfl, hb6⟩; have HB6 := Lib.hid (HB5.out.trans (hb6.mono HB5.out.size)); clear hb6) | (go_at_call 10; (with_reducible refine (HCN.out _).mono ?_); rintro e w7 ⟨rfl, rfl⟩))
              go_roundw
              case rel => exact ⟨j + 1, by go_num, by omega, Lib.hid (HB6.out.trans ((new1 _ _).mono HB6.out.size))⟩
              case measure => (first | omega | (simp [intOf]; omega))
    · have hj4 : j = 4 := by omega
      go_wp2_with (go_at_call 7; (with_reducible refine (HAW.out _ (env_below HE.out HBE.out)).mono ?_); rintro e w8 ⟨rfl, hb8⟩; have HB8 := Lib.hid (HBE.out.trans (hb8.mono HBE.out.size)); clear hb8)
      go_ret
      exact ⟨rfl, HB8.out⟩
end Go.Proofs.YtljgpcaljedhpaaDoor
