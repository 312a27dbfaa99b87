/- PrettyWords, walked. -/
import Derived.Test.YtljgpcaljedhpaaDoorY1
import Derived.Test.YtljgpcaljedhpaaDoorY3
import Derived.Test.YtljgpcaljedhpaaDoorP5
import Derived.Test.YtljgpcaljedhpaaDoorLib2
namespace Go.Proofs.YtljgpcaljedhpaaDoor
open Go.RowKit

theorem repl_one (c : UInt8) (s : ByteArray) (w : World) (hE : Env w) (hs : s.size ≤ 100000) :
    Calls Tryd.prog 46 #[.string s, .string ⟨#[c]⟩, .string ⟨#[]⟩] w fun e w' => e = .returned (.string ⟨(s.data.toList.filter (· != c)).toArray⟩) ∧ Below w.heap.size w w' := by
  obtain ⟨_, m, hm⟩ := hE
  have h := Tryd.strings_ReplaceAll s ⟨#[c]⟩ ⟨#[]⟩ m w (by omega) hm (by show 1 ≤ 1; decide) (by show s.size + _ * 0 ≤ _; omega)
  rw [show Lib.replaceAll s.data.toList (⟨#[c]⟩ : ByteArray).data.toList (⟨#[]⟩ : ByteArray).data.toList = _ from replaceAll_one c _] at h
  exact h

theorem bare_any (l : List UInt8) (w : World) (hE : Env w) (hs : l.length ≤ 100000) :
    Calls Tryd.prog 20 #[.string ⟨l.toArray⟩] w fun e w' => e = .returned (.string ⟨(strip l).toArray⟩) ∧ Below w.heap.size w w' := by
  have H1 := Lib.hid (repl_one 32 ⟨l.toArray⟩ w hE (by show l.toArray.size ≤ 100000; simpa using hs))
  have hfl : (l.filter (· != 32)).length ≤ 100000 := Nat.le_trans (List.length_filter_le ..) hs
  have H2 := Lib.hid (fun (W : World) (hW : Env W) => repl_one 10 ⟨(l.filter (· != 32)).toArray⟩ W hW (by show (l.filter (· != 32)).toArray.size ≤ 100000; simpa using hfl))
  have HE := Lib.hid hE
  clear hE hfl hs
  go_enter Tryd.func20, Tryd.ntmps20
  go_wp2_with (go_at_call 46; (with_reducible refine H1.out.mono ?_); rintro e w1 ⟨rfl, hb1⟩; have HB1 := Lib.hid hb1; clear hb1)
  go_wp2_with (go_at_call 46; (with_reducible refine (H2.out _ (env_below HE.out HB1.out)).mono ?_); rintro e w2 ⟨rfl, hb2⟩; have HB2 := Lib.hid (HB1.out.trans (hb2.mono HB1.out.size)); clear hb2)
  go_ret
  refine ⟨?_, HB2.out⟩
  unfold strip
  rw [List.filter_filter]
  rfl

set_option maxRecDepth 100000 in
set_option maxHeartbeats 4000000 in
theorem words_any (A : Option Addr) (l : List (Nat × Nat)) (cap : Nat) (wd ms : Int) (w : World) (hE : Env w) (hin : PairsIn w A l) (hb : ∀ x ∈ l, x.1 < 256 ∧ x.2 < 256) (hcap : l.length ≤ cap)
    (hw0 : 0 ≤ wd) (hw1 : wd < 256) (hm0 : 0 ≤ ms) (hm1 : ms < 256) :
    Calls Tryd.prog 6 #[.slice A l.length cap, .int .u8 wd, .int .u8 ms] w fun e w' => e = .returned (.bool true) ∧ Below w.heap.size w w' := by
  have HAW := Lib.hid (@awake_any Env libC libS)
  have HE := Lib.hid hE
  by_cases hl : l.length ≤ 60
  · have hmade := made_any A l cap w hin hb hl hcap
    have m := made_made l 0
    obtain ⟨f1, hfl, s1, r1, c1, c2, c3⟩ := words_law l hl (1 + wd % 60) (ms % 61) (by omega) (by omega) (by omega) (by omega)
    have hlen : (madeGo l 0).length ≤ 180 := by have := m.len; omega
    have hsz : ∀ x ∈ madeGo l 0, x.text.size ≤ 140737488355328 := fun x hx => Nat.le_trans (m.sf x hx).1.sz (by decide)
    unfold MadeSays at hmade
    generalize madeGo l 0 = X at *
    generalize flatL X 0 = FX at *
    have HMADE := Lib.hid hmade
    have HFX := Lib.hid (fun (A : Option Addr) (cap : Nat) (W : World) hE hO => flat_any libC A X cap W hE hO (by omega) hsz)
    have HRX := Lib.hid (fun (A : Option Addr) (cap : Nat) (W : World) hE hO hc => render_ok libC A X cap _ _ s1 W hE hO hc (by omega) hsz r1)
    unfold FlatSays at HFX
    rw [f1] at HFX
    generalize s1.out = OX at *
    have HBF := Lib.hid (fun (W : World) hE => bare_any FX W hE hfl)
    have HBO := Lib.hid (fun (W : World) hE => bare_any OX W hE c3)
    rw [c1] at HBO
    have HCO : Hid (∀ (W : World), Env W → Calls Tryd.prog 21 #[.string ⟨OX.toArray⟩, .string ⟨#[32, 10]⟩] W fun e w' => e = .returned (.bool false) ∧ w' = W) := by
      intro W hW
      obtain ⟨_, m, hm⟩ := hW
      have h := Tryd.strings_Contains ⟨OX.toArray⟩ ⟨#[32, 10]⟩ m W (by show OX.toArray.size < 4294967281; simp; omega) hm
      rw [show Lib.contains (⟨OX.toArray⟩ : ByteArray).data.toList (⟨#[32, 10]⟩ : ByteArray).data.toList = false from nsn_contains (by simpa using c2)] at h
      exact h
    generalize strip FX = SX at *
    have e1 : IntKind.i64.wrap (1 + wd % 60) = 1 + wd % 60 := IntWalk.i64_in _ (by omega)
    have hl' : ¬ (60 : Int) < (l.length : Int) := by omega
    clear hmade f1 r1 c1 c2 c3 m hsz hlen hin hb hE hfl
    go_enter Tryd.func6, Tryd.ntmps6
    go_wp2_with (go_at_call 11; (with_reducible refine HMADE.out.mono ?_); rintro e w1 ⟨v1, rfl, ho1, hb1⟩; obtain ⟨A1, c1, rfl⟩ := own_slice ho1; obtain ⟨_, hc1, hO1⟩ := own_ops ho1; have HO1 := Lib.hid hO1; have HB1 := Lib.hid hb1; have HC1 := Lib.hid hc1; clear ho1 hb1 hO1 hc1)
    go_wp2_with (go_at_call 12; (with_reducible refine (HFX.out _ _ _ (env_below HE.out HB1.out) HO1.out).mono ?_); rintro e w2 ⟨rfl, hb2⟩; have HO2 := Lib.hid (HO1.out.below hb2); have HB2 := Lib.hid (HB1.out.trans (hb2.mono HB1.out.size)); clear hb2)
    clear HO1 HB1
    go_wp2_with (go_at_call 9; (with_reducible refine (HRX.out _ _ _ (env_below HE.out HB2.out) HO2.out HC1.out).mono ?_); rintro e w3 ⟨rfl, hb3⟩; have HB3 := Lib.hid (HB2.out.trans (hb3.mono HB2.out.size)); clear hb3)
    clear HO2 HB2
    go_wp2_with (go_at_call 20; (with_reducible refine (HBF.out _ (env_below HE.out HB3.out)).mono ?_); rintro e w4 ⟨rfl, hb4⟩; have HB4 := Lib.hid (HB3.out.trans (hb4.mono HB3.out.size)); clear hb4)
    clear HB3
    go_wp2_with (go_at_call 20; (with_reducible refine (HBO.out _ (env_below HE.out HB4.out)).mono ?_); rintro e w5 ⟨rfl, hb5⟩; have HB5 := Lib.hid (HB4.out.trans (hb5.mono HB4.out.size)); clear hb5)
    clear HB4
    go_wp2_with (go_at_call 21; (with_reducible refine (HCO.out _ (env_below HE.out HB5.out)).mono ?_); rintro e w6 ⟨rfl, rfl⟩)
    go_wp2_with (go_at_call 7; (with_reducible refine (HAW.out _ (env_below HE.out HB5.out)).mono ?_); rintro e w8 ⟨rfl, hb8⟩; have HB8 := Lib.hid (HB5.out.trans (hb8.mono HB5.out.size)); clear hb8)
    go_ret
    exact ⟨rfl, HB8.out⟩
  · have hl' : (60 : Int) < (l.length : Int) := by omega
    go_enter Tryd.func6, Tryd.ntmps6
    go_wp2_with (go_at_call 7; (with_reducible refine (HAW.out _ HE.out).mono ?_); rintro e w1 ⟨rfl, hb1⟩; have HB1 := Lib.hid hb1; clear hb1)
    go_ret
    exact ⟨rfl, HB1.out⟩
end Go.Proofs.YtljgpcaljedhpaaDoor
