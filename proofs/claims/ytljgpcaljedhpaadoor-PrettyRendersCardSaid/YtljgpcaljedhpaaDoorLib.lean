/- The library's contracts, at this dump. -/
import Derived.Test.YtljgpcaljedhpaaDoorW1
import Derived.Test.YtljgpcaljedhpaaDoorShelf
namespace Go.Proofs.YtljgpcaljedhpaaDoor
open Go.RowKit

/-- What the library asks of package-level variables. -/
def Env (w : World) : Prop := Lib.Utf8Tabs 1 2 w ∧ ∃ m, w.cell? ⟨0, 0, none⟩ = some (.int .i64 m)

theorem env_below {w w' : World} (h : Env w) (hb : Below w.heap.size w w') : Env w' := by
  obtain ⟨h1, m, h2⟩ := h
  exact ⟨Utf8Tabs_below h1 hb, m, (hb.cell (p := ⟨0, 0, none⟩) (World.block_lt_of_cell? w _ h2)).trans h2⟩

theorem iter_below (w : World) (s : ByteArray) (pos : Nat) : Below w.heap.size w (w.iter s pos) := by
  unfold World.iter
  exact new1 w _

theorem libC : LibC Env where
  below := env_below
  con := fun s w _ _ => (Tryd.strings_Contains_one s 10 w).mono fun e w' ⟨he, hw⟩ => ⟨by rw [he]; unfold nlB Lib.contains; rw [Lib.index_one], hw.symm⟩
  val := fun s w hE hs => Any.utf8_ValidString Tryd.laysValid s w hs hE.1
  rc := fun s w hs => (Tryd.utf8_RuneCountInString s w hs).mono fun e w' ⟨he, pos, hw⟩ => ⟨he, by rw [hw]; exact iter_below w s pos⟩
  lib := fun s w hs => (Tryd.strings_LastIndexByte s 10 hs w).mono fun e w' ⟨he, hw⟩ => ⟨he, hw.symm⟩
  rep := fun c w hc => Tryd.strings_Repeat ⟨#[32]⟩ c w (by omega) (by show 1 * c ≤ _; omega)
  bws := fun T B b l s w hT h hl hB => by
    subst hT
    refine (Any.Builder_WriteString (P := Tryd.prog) (ρ := Tryd.lays105_ren) { Tryd.lays105 with } Tryd.Builder_Extra_105 B b (Lib.byteCells l) s w h (by rw [Lib.byteCells_length]; exact hl) hB).mono ?_
    rintro e w' ⟨he, h1, h2⟩
    refine ⟨he, .inr ?_, h2⟩
    have e2 : Lib.byteCells (l ++ s.data.toList) = Lib.byteCells l ++ Lib.strCells s := by simp [Lib.byteCells, Lib.strCells]
    rw [e2]
    exact h1
  blen := fun T B b l w hT h => by
    subst hT
    exact (Tryd.Builder_Len B b (Lib.byteCells l) w h).mono fun e w' ⟨he, hw⟩ => ⟨by rw [he, Lib.byteCells_length], hw.symm⟩
  bstr := fun T B b l w hT h hB => by
    subst hT
    exact Tryd.Builder_String_any B b l w h hB
  cnt := fun s w => (Tryd.strings_Count_one s 10 w).mono fun e w' ⟨he, hw⟩ => ⟨he, hw.symm⟩
end Go.Proofs.YtljgpcaljedhpaaDoor
