/- PrettyBlocks of any input. -/
import Derived.Test.YtljgpcaljedhpaaDoorY6
namespace Go.Proofs.YtljgpcaljedhpaaDoor
open Go.RowKit

set_option maxRecDepth 100000 in
set_option maxHeartbeats 2000000 in
theorem blocks_other (A : Option Addr) (n cap wd ms ah : Nat) (w : World) (hE : Env w) (hn : n < 2 ∨ 20 < n) :
    Calls Tryd.prog 3 #[.slice A n cap, .int .u8 wd, .int .u8 ms, .int .u8 ah] w fun e w' => e = .returned (.bool true) ∧ Below w.heap.size w w' := by
  have HAW := Lib.hid (@awake_any Env libC libS)
  have HE := Lib.hid hE
  rcases hn with hn | hn
  · have l1 : (n : Int) < 2 := by omega
    clear hn
    go_enter Tryd.func3, Tryd.ntmps3
    go_wp2_with (go_at_call 7; (with_reducible refine (HAW.out _ HE.out).mono ?_); rintro e w1 ⟨rfl, hb1⟩; have HB1 := Lib.hid hb1; clear hb1)
    go_ret
    exact ⟨rfl, HB1.out⟩
  · have l1 : ¬ (n : Int) < 2 := by omega
    have l2 : (20 : Int) < (n : Int) := by omega
    clear hn
    go_enter Tryd.func3, Tryd.ntmps3
    go_wp2_with (go_at_call 7; (with_reducible refine (HAW.out _ HE.out).mono ?_); rintro e w1 ⟨rfl, hb1⟩; have HB1 := Lib.hid hb1; clear hb1)
    go_ret
    exact ⟨rfl, HB1.out⟩

theorem blocks_all (A : Option Addr) (l : List Nat) (cap wd ms ah : Nat) (w : World) (hE : Env w) (hin : BytesIn w A l) (hb : ∀ x ∈ l, x < 256) (hcap : l.length ≤ cap) (hwd : wd < 256) (hms : ms < 256) (hah : ah < 256) :
    Calls Tryd.prog 3 #[.slice A l.length cap, .int .u8 wd, .int .u8 ms, .int .u8 ah] w fun e w' => e = .returned (.bool true) ∧ Below w.heap.size w w' := by
  by_cases h : l.length < 2 ∨ 20 < l.length
  · exact blocks_other A l.length cap wd ms ah w hE h
  · match l, hin, hb, hcap, h with
    | [], _, _, _, h => exact absurd (Or.inl (show 0 < 2 by decide)) h
    | [a], _, _, _, h => exact absurd (Or.inl (show 1 < 2 by decide)) h
    | a :: b :: r, hin, hb, hcap, h =>
      have h20 : (a :: b :: r).length ≤ 20 := by omega
      exact blocks_any A a (b :: r) cap wd ms ah w hE hin hb hcap (by simp at h20 ⊢; omega) (by simp) hwd hms hah
end Go.Proofs.YtljgpcaljedhpaaDoor
