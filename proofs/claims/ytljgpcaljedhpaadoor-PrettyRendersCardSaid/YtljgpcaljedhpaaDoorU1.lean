/- Render on every road; PrettyRenders, walked. -/
import Derived.Test.YtljgpcaljedhpaaDoorS9
import Derived.Test.YtljgpcaljedhpaaDoorT4
import Derived.Test.YtljgpcaljedhpaaDoorY3
namespace Go.Proofs.YtljgpcaljedhpaaDoor
open Go.RowKit

theorem render_all {E : World → Prop} (L : LibC E) (A : Option Addr) (l : List Op) (cap : Nat) (W M : Int) (w : World) (hE : E w) (hops : OpsIn w A l) (hcap : l.length ≤ cap) (hl : l.length ≤ 60000) (ht : ∀ x ∈ l, x.text.size ≤ 140737488355328) :
    Calls Tryd.prog 9 #[.slice A l.length cap, .int .i64 W, .int .i64 M] w (RenderSays l W M w) := by
  unfold RenderSays renderP
  by_cases hc : checkP l = 0
  · rw [if_neg (fun e => e hc)]
    by_cases hr : W < 1 ∨ W > 200 ∨ M < 0 ∨ M > 200
    · rw [if_pos hr]
      exact render_range L A l cap W M w hE hops hl ht hc (by omega)
    · rw [if_neg hr]
      cases hst : stepsP W M l { out := [], at_ := 0, lines := 0, blocks := [firstBk l W M] } with
      | none => exact render_over L A l cap W M w hE hops hcap hl ht ⟨hc, by omega, by omega, by omega, by omega, hst⟩
      | some s => exact render_ok L A l cap W M s w hE hops hcap hl ht ⟨hc, by omega, by omega, by omega, by omega, hst⟩
  · rw [if_pos hc]
    exact render_check L A l cap W M w hE hops hl ht hc

/-- The reference's operations that are owned, read as the argument of a call. -/
theorem own_ops77 {w : World} {base : Nat} {l : List Op} {A : Option Addr} {n c : Nat} (h : w.ownsRow base 77 5 (.slice A n c) l.length (opsC l)) : n = l.length ∧ l.length ≤ c ∧ OpsIn w A l := by
  rcases h.2 with ⟨hv, hn⟩ | ⟨g, cap, cur, hv, hg, hh, hle, hm, hs, ht⟩
  · injection hv with h1 h2 h3
    subst h1; subst h2; subst h3
    have : l = [] := List.eq_nil_of_length_eq_zero hn
    subst this
    exact ⟨rfl, Nat.le_refl _, fun hne => absurd rfl hne⟩
  · have hc := h.cells (g := g) (by rw [hv]; rfl)
    injection hv with h1 h2 h3
    subst h1; subst h2; subst h3
    refine ⟨rfl, hle, fun _ => ⟨_, rfl, fun i x hx => ?_, blk_lt hh⟩⟩
    have hk : ∀ k, k < 5 → w.cell? ⟨g, i * 5 + k, none⟩ = (opC x)[k]? := fun k hk => by
      have e := opsC_get l i x hx k hk
      obtain ⟨u, hu⟩ : ∃ u, (opC x)[k]? = some u := ⟨_, List.getElem?_eq_getElem (by simp [opC]; omega)⟩
      have := hc (i * 5 + k) u (e.trans hu)
      rw [add_plain] at this
      rw [hu]
      simpa using this
    rw [add_plain]
    refine ⟨?_, ?_, ?_, ?_, ?_⟩
    · have := hk 0 (by decide); simpa [opC] using this
    · have := hk 1 (by decide); simpa [opC] using this
    · have := hk 2 (by decide); simpa [opC] using this
    · have := hk 3 (by decide); simpa [opC] using this
    · have := hk 4 (by decide); simpa [opC] using this

set_option maxRecDepth 100000 in
set_option maxHeartbeats 2000000 in
theorem renders_law {E : World → Prop} (L : LibC E) (S : LibS E) (A : Option Addr) (l : List Op) (cap : Nat) (W M : Int) (s : ByteArray) (w : World) (hE : E w) (hops : OpsIn w A l) (hcap : l.length ≤ cap) (hlen : l.length ≤ 140737488351232)
    (ht : ∀ x ∈ l, x.text.size ≤ 140737488351232) (hs : s.size ≤ 140737488351232) :
    Calls Tryd.prog 5 #[.slice A l.length cap, .int .i64 W, .int .i64 M, .string s] w fun e w' => e = .returned (.bool true) ∧ Below w.heap.size w w' := by
  have HAW := Lib.hid (@awake_any E L S)
  have HE := Lib.hid hE
  have HO := Lib.hid hops
  have HT := Lib.hid ht
  clear hE hops ht
  go_enter Tryd.func5, Tryd.ntmps5
  go_wp2_with fail
  go_loopw [9, 22] (fun v9 v22 w' => ∃ (j b : Nat), v22 = .int .i64 j ∧ v9 = .int .i64 b ∧ j ≤ l.length ∧ b ≤ 30000 ∧ w = w') (fun _ v22 _ => l.length - (intOf v22).toNat)
  case atStart => exact ⟨0, 0, rfl, rfl, Nat.zero_le _, Nat.zero_le _, rfl⟩
  case round =>
    obtain ⟨j, b, rfl, rfl, hj, hb, rfl⟩ := hrel
    by_cases hlt : j < l.length
    · obtain ⟨⟨k, t, n, m, f⟩, hx⟩ : ∃ x, l[j]? = some x := ⟨_, List.getElem?_eq_getElem hlt⟩
      obtain ⟨ad, rfl, ho, _⟩ := HO.out (by rintro rfl; simp at hlt)
      obtain ⟨_, a1, _, _, _⟩ := ho j _ hx
      have hts := HT.out _ (List.mem_of_getElem? hx)
      simp only at a1 hts
      clear hx ho
      by_cases h3 : (b : Int) + (t.size : Int) < 30000
      · go_wp2_with fail
        go_roundw
        case rel => exact ⟨j + 1, b + t.size, by go_num, by rw [show min ((b : Int) + (t.size : Int)) 30000 = ((b + t.size : Nat) : Int) by omega], by omega, by omega, trivial⟩
        case measure => simp [intOf]; omega
      · go_wp2_with fail
        go_roundw
        case rel => exact ⟨j + 1, 30000, by go_num, by rw [show min ((b : Int) + (t.size : Int)) 30000 = ((30000 : Nat) : Int) by omega], by omega, by omega, trivial⟩
        case measure => simp [intOf]; omega
    · by_cases hmain : (l.length ≤ 120 ∨ (4000 < l.length ∧ l.length ≤ 5000)) ∧ (b ≤ 2000 ∨ 20000 < b) ∧ s.size ≤ 2000
      · obtain ⟨hm1, hm2, hm3⟩ := hmain
        have h5 : l.length ≤ 5000 := by omega
        have hts : ∀ x ∈ l, x.text.size ≤ 140737488355328 := fun x hx => Nat.le_trans (HT.out x hx) (by decide)
        have HOPS := Lib.hid (ops_any A l cap w HO.out h5 hcap)
        have HFA := Lib.hid (fun (w1 : World) (hb : Below w.heap.size w w1) => flat_any L A l cap w1 (L.below HE.out hb) (HO.out.below hb) (by omega) hts)
        have HFB := Lib.hid (fun (A1 : Option Addr) (c1 : Nat) (w1 : World) hE1 hO1 hc1 => rflat_any L A1 l c1 w1 hE1 hO1 hc1 (by omega) hts)
        have HRA := Lib.hid (fun (w1 : World) (hb : Below w.heap.size w w1) => render_all L A l cap W M w1 (L.below HE.out hb) (HO.out.below hb) hcap (by omega) hts)
        have HRB := Lib.hid (fun (A1 : Option Addr) (c1 : Nat) (w1 : World) hE1 hO1 hc1 => rrender_any L A1 l c1 W M w1 hE1 hO1 hc1 (by omega) hts)
        have HCA := Lib.hid (fun (w1 : World) (hb : Below w.heap.size w w1) => checkAll_any L A l cap w1 (L.below HE.out hb) (HO.out.below hb) (by omega) hts)
        have HCB := Lib.hid (fun (A1 : Option Addr) (c1 : Nat) (w1 : World) hE1 hO1 hc1 => rcheck_any L A1 l c1 w1 hE1 hO1 hc1 (by omega) hts)
        have HWA := Lib.hid (fun (w1 : World) hE1 => width_any L S s w1 hE1 (by omega))
        have HWB := Lib.hid (fun (w1 : World) => rwidth_any s (by omega) w1)
        unfold OpsSays at HOPS
        unfold FlatSays at HFA HFB
        unfold RenderSays at HRA HRB
        unfold CheckSays at HCA HCB
        unfold WidthSays at HWA HWB
        generalize flatP l = FP at *
        generalize renderP l W M = RP at *
        generalize checkP l = CP at *
        generalize widthP s = WP at *
        obtain ⟨FS, FE⟩ := FP
        obtain ⟨RS, RE⟩ := RP
        simp only at HFA HFB HRA HRB
        clear HT HO hts
        rcases hm1 with hm1 | ⟨hm1, hm1'⟩ <;> rcases hm2 with hm2 | hm2
        all_goals
          have HB0 := Lib.hid (Below.refl w.heap.size w)
          go_wp2_with (go_at_call 14; (with_reducible refine HOPS.out.mono ?_); rintro e w1 ⟨v1, rfl, ho1, hb1⟩; obtain ⟨A1, c1, rfl⟩ := own_slice ho1; obtain ⟨_, hc1, hO1⟩ := own_ops77 ho1; have HO1 := Lib.hid hO1; have HB1 := Lib.hid hb1; have HC1 := Lib.hid hc1; clear ho1 hb1 hO1 hc1)
          go_wp2_with (go_at_call 12; (with_reducible refine (HFA.out _ HB1.out).mono ?_); rintro e w2 ⟨rfl, hb2⟩; have HO2 := Lib.hid (HO1.out.below hb2); have HB2 := Lib.hid (HB1.out.trans (hb2.mono HB1.out.size)); clear hb2)
          clear HO1 HB1
          go_wp2_with (go_at_call 15; (with_reducible refine (HFB.out _ _ _ (L.below HE.out HB2.out) HO2.out HC1.out).mono ?_); rintro e w3 ⟨rfl, hb3⟩; have HO3 := Lib.hid (HO2.out.below hb3); have HB3 := Lib.hid (HB2.out.trans (hb3.mono HB2.out.size)); clear hb3)
          clear HO2 HB2
          go_wp2_with (go_at_call 9; (with_reducible refine (HRA.out _ HB3.out).mono ?_); rintro e w4 ⟨rfl, hb4⟩; have HO4 := Lib.hid (HO3.out.below hb4); have HB4 := Lib.hid (HB3.out.trans (hb4.mono HB3.out.size)); clear hb4)
          clear HO3 HB3
          go_wp2_with (go_at_call 16; (with_reducible refine (HRB.out _ _ _ (L.below HE.out HB4.out) HO4.out HC1.out).mono ?_); rintro e w5 ⟨rfl, hb5⟩; have HO5 := Lib.hid (HO4.out.below hb5); have HB5 := Lib.hid (HB4.out.trans (hb5.mono HB4.out.size)); clear hb5)
          clear HO4 HB4
          go_wp2_with (go_at_call 17; (with_reducible refine (HCA.out _ HB5.out).mono ?_); rintro e w6 ⟨rfl, hb6⟩; have HO6 := Lib.hid (HO5.out.below hb6); have HB6 := Lib.hid (HB5.out.trans (hb6.mono HB5.out.size)); clear hb6)
          clear HO5 HB5
          go_wp2_with (go_at_call 18; (with_reducible refine (HCB.out _ _ _ (L.below HE.out HB6.out) HO6.out HC1.out).mono ?_); rintro e w7 ⟨rfl, hb7⟩; have HB7 := Lib.hid (HB6.out.trans (hb7.mono HB6.out.size)); clear hb7)
          clear HO6 HB6
          go_wp2_with (go_at_call 13; (with_reducible refine (HWA.out _ (L.below HE.out HB7.out)).mono ?_); rintro e w8 ⟨rfl, hb8⟩; have HB8 := Lib.hid (HB7.out.trans (hb8.mono HB7.out.size)); clear hb8)
          clear HB7
          go_wp2_with (go_at_call 19; (with_reducible refine (HWB.out _).mono ?_); rintro e w9 ⟨rfl, hb9⟩; have HB9 := Lib.hid (HB8.out.trans (hb9.mono HB8.out.size)); clear hb9)
          clear HB8
          go_wp2_with (go_at_call 7; (with_reducible refine (HAW.out _ (L.below HE.out HB9.out)).mono ?_); rintro e w10 ⟨rfl, hb10⟩; have HB10 := Lib.hid (HB9.out.trans (hb10.mono HB9.out.size)); clear hb10)
          go_ret
          exact ⟨rfl, HB10.out⟩
      · have hd : (120 < l.length ∧ l.length ≤ 4000) ∨ (5000 < l.length) ∨ (l.length ≤ 120 ∧ 2000 < b ∧ b ≤ 20000) ∨ (4000 < l.length ∧ l.length ≤ 5000 ∧ 2000 < b ∧ b ≤ 20000) ∨
            (l.length ≤ 120 ∧ b ≤ 2000 ∧ 2000 < s.size) ∨ (l.length ≤ 120 ∧ 20000 < b ∧ 2000 < s.size) ∨ (4000 < l.length ∧ l.length ≤ 5000 ∧ b ≤ 2000 ∧ 2000 < s.size) ∨ (4000 < l.length ∧ l.length ≤ 5000 ∧ 20000 < b ∧ 2000 < s.size) := by omega
        clear hmain
        rcases hd with ⟨q1, q2⟩ | q1 | ⟨q1, q2, q3⟩ | ⟨q1, q2, q3, q4⟩ | ⟨q1, q2, q3⟩ | ⟨q1, q2, q3⟩ | ⟨q1, q2, q3, q4⟩ | ⟨q1, q2, q3, q4⟩
        all_goals
          go_wp2_with (go_at_call 7; (with_reducible refine (HAW.out _ HE.out).mono ?_); rintro e w1 ⟨rfl, hb1⟩; have HB1 := Lib.hid hb1; clear hb1)
          go_ret
          exact ⟨rfl, HB1.out⟩
end Go.Proofs.YtljgpcaljedhpaaDoor
