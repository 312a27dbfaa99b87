/- PrettyFlats, walked. -/
import Derived.Test.YtljgpcaljedhpaaDoorY1
import Derived.Test.YtljgpcaljedhpaaDoorY3
import Derived.Test.YtljgpcaljedhpaaDoorP4
namespace Go.Proofs.YtljgpcaljedhpaaDoor
open Go.RowKit

theorem noNl_drop {l : List Op} {j : Nat} {x : Op} (h : l[j]? = some x) : noNl (l.drop j) = (if x.kind = 1 then [] else [x]) ++ noNl (l.drop (j + 1)) := by
  have hlt := (List.getElem?_eq_some_iff.1 h).1
  rw [List.drop_eq_getElem_cons hlt]
  have e : l[j] = x := (List.getElem?_eq_some_iff.1 h).2
  rw [e]
  by_cases hk : x.kind = 1
  · rw [noNl_cons_neg _ hk, if_pos hk]; rfl
  · rw [noNl_cons_pos _ hk, if_neg hk]; rfl

set_option maxRecDepth 100000 in
set_option maxHeartbeats 4000000 in
theorem flats_any {E : World → Prop} (L : LibC E) (S : LibS E) (A : Option Addr) (l : List (Nat × Nat)) (cap : Nat) (wd ms : Int) (w : World) (hE : E w) (hin : PairsIn w A l) (hb : ∀ x ∈ l, x.1 < 256 ∧ x.2 < 256) (hcap : l.length ≤ cap)
    (hw0 : 0 ≤ wd) (hw1 : wd < 256) (hm0 : 0 ≤ ms) (hm1 : ms < 256) :
    Calls Tryd.prog 4 #[.slice A l.length cap, .int .u8 wd, .int .u8 ms] w fun e w' => e = .returned (.bool true) ∧ Below w.heap.size w w' := by
  have HAW := Lib.hid (@awake_any E L S)
  have HE := Lib.hid hE
  obtain ⟨t26, ti0, ti1, ti2, ti3⟩ := info_parts info26
  have T0 := Lib.hid ti0
  have T1 := Lib.hid ti1
  have T2 := Lib.hid ti2
  have T3 := Lib.hid ti3
  clear ti0 ti1 ti2 ti3
  by_cases hl : l.length ≤ 60
  · have hmade := made_any A l cap w hin hb hl hcap
    have m := made_made l 0
    have e1 : IntKind.i64.wrap (1 + wd % 200) = 1 + wd % 200 := IntWalk.i64_in _ (by omega)
    obtain ⟨f1, f2, ⟨s1, r1, _, c1⟩, ⟨s2, r2, o2⟩⟩ := flats_law l hl (1 + wd % 200) (ms % 201) (by omega) (by omega) (by omega) (by omega)
    have hlen : (madeGo l 0).length ≤ 180 := by have := m.len; omega
    have hsub : (noNl (madeGo l 0)).length ≤ 180 := Nat.le_trans (List.length_filter_le ..) hlen
    have hsz : ∀ x ∈ madeGo l 0, x.text.size ≤ 140737488355328 := fun x hx => Nat.le_trans (m.sf x hx).1.sz (by decide)
    have hsz2 : ∀ x ∈ noNl (madeGo l 0), x.text.size ≤ 140737488355328 := fun x hx => hsz x (List.mem_filter.1 hx).1
    have hpl := flatL_plain (madeGo l 0) (fun x hx => (m.sf x hx).1) 0
    have hfl := flatL_le (madeGo l 0) (fun x hx => (m.sf x hx).1) 0 (Int.le_refl _)
    unfold MadeSays at hmade
    generalize madeGo l 0 = X at *
    generalize flatL X 0 = FX at *
    generalize flatL (noNl X) 0 = FY at *
    have HMADE := Lib.hid hmade
    have HFX := Lib.hid (fun (A : Option Addr) (cap : Nat) (W : World) hE hO => flat_any L A X cap W hE hO (by omega) hsz)
    have HFY := Lib.hid (fun (A : Option Addr) (cap : Nat) (W : World) hE hO => flat_any L A (noNl X) cap W hE hO (by omega) hsz2)
    have HRX := Lib.hid (fun (A : Option Addr) (cap : Nat) (W : World) hE hO hc => render_ok L A X cap _ _ s1 W hE hO hc (by omega) hsz r1)
    have HRY := Lib.hid (fun (A : Option Addr) (cap : Nat) (W : World) hE hO hc => render_ok L A (noNl X) cap _ _ s2 W hE hO hc (by omega) hsz2 r2)
    have HWX := Lib.hid (fun (W : World) hE => width_any L S ⟨FX.toArray⟩ W hE (by show FX.toArray.size < 4294967281; simp; omega))
    unfold FlatSays at HFX HFY
    unfold WidthSays at HWX
    rw [f1] at HFX
    rw [f2] at HFY
    rw [o2] at HRY
    have C1 := Lib.hid c1
    generalize widthP ⟨FX.toArray⟩ = K at *
    generalize s1.out = OX at *
    have e1 : IntKind.i64.wrap (1 + wd % 200) = 1 + wd % 200 := IntWalk.i64_in _ (by omega)
    have HXL := Lib.hid hlen
    have hl' : ¬ (60 : Int) < (l.length : Int) := by omega
    clear hmade f1 f2 r1 r2 o2 c1 m hsz hsz2 hpl hfl hsub hlen hin hb hE
    have key : (¬ (K : Int) ≤ 1 + wd % 200) ∨ ((K : Int) ≤ 1 + wd % 200 ∧ OX = FX) := by
      by_cases hk : (K : Int) ≤ 1 + wd % 200
      · exact .inr ⟨hk, C1.out hk⟩
      · exact .inl hk
    clear C1
    go_enter Tryd.func4, Tryd.ntmps4
    go_wp2_with (go_at_call 11; (with_reducible refine HMADE.out.mono ?_); rintro e w1 ⟨v1, rfl, ho1, hb1⟩; obtain ⟨A1, c1, rfl⟩ := own_slice ho1; obtain ⟨_, hc1, hO1⟩ := own_ops ho1; have HO1 := Lib.hid hO1; have HB1 := Lib.hid hb1; have HC1 := Lib.hid hc1; clear ho1 hb1 hO1 hc1)
    go_wp2_with (go_at_call 12; (with_reducible refine (HFX.out _ _ _ (L.below HE.out HB1.out) HO1.out).mono ?_); rintro e w2 ⟨rfl, hb2⟩; have HO2 := Lib.hid (HO1.out.below hb2); have HB2 := Lib.hid (HB1.out.trans (hb2.mono HB1.out.size)); clear hb2)
    clear HO1 HB1
    go_wp2_with (go_at_call 9; (with_reducible refine (HRX.out _ _ _ (L.below HE.out HB2.out) HO2.out HC1.out).mono ?_); rintro e w3 ⟨rfl, hb3⟩; have HO3 := Lib.hid (HO2.out.below hb3); have HB3 := Lib.hid (HB2.out.trans (hb3.mono HB2.out.size)); clear hb3)
    clear HO2 HB2
    rcases key with hk | ⟨hk, rfl⟩
    all_goals
      go_wp2_with (go_at_call 13; (with_reducible refine (HWX.out _ (L.below HE.out HB3.out)).mono ?_); rintro e w4 ⟨rfl, hb4⟩; have HO4 := Lib.hid (HO3.out.below hb4); have HB4 := Lib.hid (HB3.out.trans (hb4.mono HB3.out.size)); clear hb4)
      clear HO3 HB3
      have hst : w4.ownsRow w4.heap.size 26 5 (.slice none 0 0) 0 (opsC []) := World.ownsRow_nil _ _ _ _
      have HST := Lib.hid hst
      clear hst
      go_loopw [14, 61] (fun v14 v61 w' => ∃ (j : Nat) (done : List Op), v61 = .int .i64 j ∧ j ≤ X.length ∧ Hid (done.length ≤ j) ∧ Hid (noNl X = done ++ noNl (X.drop j)) ∧ Hid (w'.ownsRow w4.heap.size 26 5 v14 done.length (opsC done)) ∧ Hid (Below w4.heap.size w4 w')) (fun _ v61 _ => X.length - (intOf v61).toNat)
      case atStart => exact ⟨0, [], rfl, Nat.zero_le _, Lib.hid (Nat.zero_le _), Lib.hid rfl, HST, Lib.hid (Below.refl _ _)⟩
      case round =>
        obtain ⟨j, done, rfl, hj, HDL, HM, HR, HBE⟩ := hrel
        by_cases hlt : j < X.length
        · obtain ⟨⟨k, t, n, m, f⟩, hx⟩ : ∃ x, X[j]? = some x := ⟨_, List.getElem?_eq_getElem hlt⟩
          obtain ⟨ad, rfl, ho, _⟩ := (HO4.out.below HBE.out) (by rintro rfl; simp at hlt)
          obtain ⟨a0, a1, a2, a3, a4⟩ := ho j _ hx
          simp only at a0 a1 a2 a3 a4
          have hc1 := HC1.out
          have hxl := HXL.out
          have hdl := HDL.out
          have hM := HM.out
          rw [noNl_drop hx, ← List.append_assoc] at hM
          simp only at hM
          by_cases hk1 : k = 1
          · subst hk1
            rw [if_pos rfl, List.append_nil] at hM
            have HM := Lib.hid hM
            have HR5 := Lib.hid (own_below HR.out (new1 wr (.cells #[.int .i64 1, .string t, .int .i64 n, .int .i64 m, .bool f] 26)))
            have HB5 := Lib.hid (HBE.out.trans ((new1 wr (.cells #[.int .i64 1, .string t, .int .i64 n, .int .i64 m, .bool f] 26)).mono HBE.out.size))
            clear hM hx ho
            go_wp2_with fail
            go_roundw
            case rel => exact ⟨j + 1, done, by go_num, by omega, Lib.hid (by omega), HM, HR5, HB5⟩
            case measure => (first | omega | (simp [intOf]; omega))
          · rw [if_neg hk1] at hM
            have HM := Lib.hid hM
            clear hM hx ho
            go_wp2_with (at_builtin; refine wpList_append_own _ rfl _ _ 27 rfl w4.heap.size 26 t26 _ 5 48 Tryd.underlying27 T0.out T1.out T2.out T3.out rfl (by decide) _ _ _ rfl ((HR.out.alloc _).alloc _) _ 1 1 (opsC [⟨k, t, n, m, f⟩]) rfl rfl ?c1 ?c2 ?c3 ?c4 ?c5 ?_)
            case c1 =>
              intro jj u h
              rw [add_plain]
              try rw [Nat.zero_add]
              exact (blk_cell (heap_alloc2 wr _ _) jj).trans (by simpa [opsC, opC] using h)
            case c2 => intro u hu; simp [opsC, opC] at hu; rcases hu with rfl | rfl | rfl | rfl | rfl <;> rfl
            case c3 => unfold maxLen; omega
            case c4 => omega
            case c5 => have := HBE.out.size; first | omega | (simp; omega)
            intro v5 w5 hown5 hgrow5 _
            obtain ⟨hr5, hb5⟩ := ops_push (xs := [⟨k, t, n, m, f⟩]) HBE.out (chain (new1 _ _) (new1 _ _)) HR.out hown5 hgrow5
            have HR5 := Lib.hid hr5
            have HB5 := Lib.hid hb5
            clear hr5 hb5 hown5 hgrow5
            go_wp2_with fail
            go_roundw
            case rel => exact ⟨j + 1, done ++ [⟨k, t, n, m, f⟩], by go_num, by omega, Lib.hid (by simp; omega), HM, HR5, HB5⟩
            case measure => (first | omega | (simp [intOf]; omega))
        · obtain rfl : j = X.length := by omega
          have hM := HM.out
          rw [List.drop_length] at hM
          have hM' : noNl X = done := by rw [hM]; exact List.append_nil _
          subst hM'
          obtain ⟨A5, c5, rfl⟩ := own_slice HR.out
          obtain ⟨_, hc5, hO5⟩ := own_ops HR.out
          have HO5 := Lib.hid hO5
          have HC5 := Lib.hid hc5
          have HB5 := Lib.hid (HB4.out.trans (HBE.out.mono HB4.out.size))
          clear hM hO5 hc5 HM HR HDL
          go_wp2_with (go_at_call 12; (with_reducible refine (HFY.out _ _ _ (L.below HE.out HB5.out) HO5.out).mono ?_); rintro e w6 ⟨rfl, hb6⟩; have HO6 := Lib.hid (HO5.out.below hb6); have HB6 := Lib.hid (HB5.out.trans (hb6.mono HB5.out.size)); clear hb6)
          clear HO5 HB5
          go_wp2_with (go_at_call 9; (with_reducible refine (HRY.out _ _ _ (L.below HE.out HB6.out) HO6.out HC5.out).mono ?_); rintro e w7 ⟨rfl, hb7⟩; have HB7 := Lib.hid (HB6.out.trans (hb7.mono HB6.out.size)); clear hb7)
          clear HO6 HB6
          go_wp2_with (go_at_call 7; (with_reducible refine (HAW.out _ (L.below HE.out HB7.out)).mono ?_); rintro e w8 ⟨rfl, hb8⟩; have HB8 := Lib.hid (HB7.out.trans (hb8.mono HB7.out.size)); clear hb8)
          go_ret
          exact ⟨rfl, HB8.out⟩
  · have hl' : (60 : Int) < (l.length : Int) := by omega
    go_enter Tryd.func4, Tryd.ntmps4
    go_wp2_with (go_at_call 7; (with_reducible refine (HAW.out _ HE.out).mono ?_); rintro e w1 ⟨rfl, hb1⟩; have HB1 := Lib.hid hb1; clear hb1)
    go_ret
    exact ⟨rfl, HB1.out⟩
end Go.Proofs.YtljgpcaljedhpaaDoor
