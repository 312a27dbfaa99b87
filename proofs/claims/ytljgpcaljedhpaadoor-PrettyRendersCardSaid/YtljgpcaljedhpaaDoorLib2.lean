/- strings.Split at a line feed, at this dump. -/
import Derived.Test.YtljgpcaljedhpaaDoorLib
import Derived.Test.YtljgpcaljedhpaaDoorX7
namespace Go.Proofs.YtljgpcaljedhpaaDoor
open Go.RowKit

theorem libS : LibS Env where
  spl := fun s w hE hs => by
    obtain ⟨_, m, hm⟩ := hE
    have hlen : (linesP s).length = Lib.countB s ⟨#[10]⟩ + 1 := Lib.splitB_all ⟨#[10]⟩ (by decide) 0 _ s rfl
    rw [hlen]
    exact Tryd.strings_Split s ⟨#[10]⟩ m w hs hm (by decide)
end Go.Proofs.YtljgpcaljedhpaaDoor
