/- awake, walked. -/
import Derived.Test.YtljgpcaljedhpaaDoorY2
namespace Go.Proofs.YtljgpcaljedhpaaDoor
open Go.RowKit

set_option maxRecDepth 100000 in
set_option maxHeartbeats 1000000 in
theorem awake_any {E : World → Prop} (L : LibC E) (S : LibS E) (w : World) (hE : E w) : Calls Tryd.prog 7 #[] w fun e w' => e = .returned (.bool true) ∧ Below w.heap.size w w' := by
  have HR1 := Lib.hid (@render_row1 E L)
  have HR2 := Lib.hid (@render_row2 E L)
  have HW := Lib.hid (@width_row E L S)
  have HE := Lib.hid hE
  go_enter Tryd.func7, Tryd.ntmps7
  go_wp2_with (go_at_call 22; refine (row_any _ _).mono ?_; rintro e w1 ⟨rfl, ho1, hb1⟩; have HO := Lib.hid ho1; have HB1 := Lib.hid hb1; clear ho1 hb1)
  go_wp2_with (go_at_call 9; (with_reducible refine (HR1.out _ _ (L.below HE.out HB1.out) HO.out).mono ?_); rintro e w2 ⟨rfl, hb2⟩; have HB2 := Lib.hid (HB1.out.trans (hb2.mono HB1.out.size)); clear hb2)
  clear HO HB1
  go_wp2_with (go_at_call 22; refine (row_any _ _).mono ?_; rintro e w3 ⟨rfl, ho3, hb3⟩; have HO := Lib.hid ho3; have HB3 := Lib.hid (HB2.out.trans (hb3.mono HB2.out.size)); clear ho3 hb3)
  go_wp2_with (go_at_call 9; (with_reducible refine (HR2.out _ _ (L.below HE.out HB3.out) HO.out).mono ?_); rintro e w4 ⟨rfl, hb4⟩; have HB4 := Lib.hid (HB3.out.trans (hb4.mono HB3.out.size)); clear hb4)
  go_wp2_with (go_at_call 13; (with_reducible refine (HW.out _ (L.below HE.out HB4.out)).mono ?_); rintro e w5 ⟨rfl, hb5⟩; have HB5 := Lib.hid (HB4.out.trans (hb5.mono HB4.out.size)); clear hb5)
  go_ret
  exact ⟨rfl, HB5.out⟩
end Go.Proofs.YtljgpcaljedhpaaDoor
