/- The rows' frame: what the laid tables give, and a world for the witness. -/
import Derived.Test.YtljgpcaljedhpaaDoorCards
import Derived.Test.YtljgpcaljedhpaaDoorTie
import Derived.Test.YtljgpcaljedhpaaDoorLib2
import Derived.Test.YtljgpcaljedhpaaDoorY0
import Derived.Lib.LaidIn
import Derived.Lib.LaidU8T
import Derived.PinnedBridge
import Derived.Deep.DeepHandedRow
import Derived.Deep.DeepWitnessRowRef
import Derived.Deep.Slices
import Derived.ProofKit
import Derived.OpenShut
import Derived.Carry
import Derived.Shelf.Vars
namespace Go.Proofs.YtljgpcaljedhpaaDoor
open Go.ChangeShapes Go.WideShapes Go.ChangeAt Go.RowKit Go.Lib Go.Shelf

theorem own : ownKnob Tryd.prog.godebug = none := by kernel_rfl
theorem laidOut : laidOutB Tryd.prog = true := by kernel_rfl

theorem first_eq : Rows.laid_unicode_utf8_first = Lib.firstData := Pinned.utf8First_eq
theorem accept_eq : (Rows.laid_unicode_utf8_acceptRanges : DataW Unit) = Lib.acceptData := by kernel_rfl

theorem env_of {W : World} (hL : laidMet Tryd.prog Rows.prettyFlatsRow.laid W) (hsh : W.ShapedOpen Tryd.prog) : Env W := by
  have h3 : VarReads Tryd.prog W "unicode/utf8.first" Lib.firstData := by rw [← first_eq]; exact Lib.laidMet.reads hL (.tail _ (.head _))
  have h4 : VarReads Tryd.prog W "unicode/utf8.acceptRanges" Lib.acceptData := by rw [← accept_eq]; exact Lib.laidMet.reads hL (.head _)
  refine ⟨utf8Tabs_of_readsT (U8Types.of196 Tryd.laysValid) ⟨by kernel_rfl, by kernel_rfl, by kernel_rfl, by kernel_rfl, by kernel_rfl, by kernel_rfl, by kernel_rfl⟩ h3 h4, ?_⟩
  exact cell_of_shapedOpen_int (t := 3) (zero := #[.int .i64 0]) hsh (of_decide_eq_true (by kernel_rfl)) (by kernel_rfl) rfl (by kernel_rfl) (by kernel_rfl) Tryd.underlying3

/-- A WORLD FOR THE WITNESS. -/
noncomputable def laidWorld (os : Os) : World :=
  let w0 := World.holding Tryd.prog os ⟨#[], #[], []⟩
  let put (h : Array Obj) (g : Nat) (cs : Array Value) : Array Obj := h.modify g fun
    | .cells _ t frozen => .cells cs t frozen
    | o => o
  let h1 := put w0.heap 1 (Lib.firstTab.map fun z => Value.int .u8 z).toArray
  let h2 := put h1 2 ((List.range 16).flatMap fun i => [Value.int .u8 (Lib.accLo i), Value.int .u8 (Lib.accHi i)]).toArray
  { w0 with heap := h2 }
theorem laid_met (os : Os) (args : Array Value) : laidMet Tryd.prog Rows.prettyFlatsRow.laid ((laidWorld os).forCall (fun _ _ => 0) ⟨#[], args, []⟩).memory := by
  show laidMet Tryd.prog [("unicode/utf8.acceptRanges", Rows.laid_unicode_utf8_acceptRanges), ("unicode/utf8.first", Rows.laid_unicode_utf8_first)] _
  rw [first_eq, accept_eq]
  exact (LaidIn.of_run (l := [("unicode/utf8.acceptRanges", Lib.acceptData), ("unicode/utf8.first", Lib.firstData)]) [2, 1] 8 (by kernel_rfl) (by kernel_rfl) (by kernel_rfl) (by kernel_rfl)).met

theorem cells72 : Tryd.prog.cellsOf 72 = 2 := by kernel_rfl
theorem cells5_ : Tryd.prog.cellsOf 5 = 1 := by kernel_rfl

/-- A slice of pairs of bytes that came in. -/
theorem open_pairs {H : Type} {enc : TypeId × Value → H} {W : World} {a : Option Addr} {len cap fuel : Nat} {x : DataW H × List MemPlace}
    (h : DataW.trod enc Tryd.prog W 0 (fun _ => true) true fuel 34 [.slice a len cap] = some x) :
    ∃ l : List (Nat × Nat), l.length = len ∧ len ≤ cap ∧ (∀ y ∈ l, y.1 < 256 ∧ y.2 < 256) ∧ PairsIn W a l := by
  rcases Go.Deep.open_slice Tryd.underlying34 h with ⟨hc, _⟩ | ⟨ad, len', cap', m, n, D, Pl, hc, _, hlc, _, hm, _, hx⟩
  · obtain ⟨rfl, rfl, rfl⟩ : a = none ∧ len = 0 ∧ cap = 0 := by simpa using hc
    exact ⟨[], rfl, Nat.le_refl _, fun y hy => (by cases hy), fun hne => absurd rfl hne⟩
  · obtain ⟨rfl, rfl, rfl⟩ : a = some ad ∧ len = len' ∧ cap = cap' := by simpa using hc
    simp only [if_true] at hm
    subst hm
    have key : ∀ i, i < len → ∃ y : Nat × Nat, (y.1 < 256 ∧ y.2 < 256) ∧ W.cell? (ad.add (i * 2)) = some (.int .u8 y.1) ∧ W.cell? ⟨(ad.add (i * 2)).block, (ad.add (i * 2)).off + 1, none⟩ = some (.int .u8 y.2) := by
      intro i hi
      obtain ⟨cs', h1, h2⟩ := hx i (by omega)
      rw [cells72] at h1
      obtain ⟨_, hlen, hcells⟩ := World.cells?_some h1
      obtain ⟨xs, fm, _, _, _, hxl, hel⟩ := DataW.trod_array Tryd.underlying72 h2
      rw [cells5_] at hel
      match cs', hlen with
      | [u, v], _ =>
        have e0 := hel 0 (by decide)
        have e1 := hel 1 (by decide)
        obtain ⟨y0, hy0⟩ : ∃ y, xs[0]? = some y := ⟨_, List.getElem?_eq_getElem (by omega)⟩
        obtain ⟨y1, hy1⟩ : ∃ y, xs[1]? = some y := ⟨_, List.getElem?_eq_getElem (by omega)⟩
        obtain ⟨n0, k0, _, w0⟩ := DataW.trod_int Tryd.underlying5 (e0.trans hy0)
        obtain ⟨n1, k1, _, w1⟩ := DataW.trod_int Tryd.underlying5 (e1.trans hy1)
        obtain rfl : u = .int .u8 n0 := by simpa using k0
        obtain rfl : v = .int .u8 n1 := by simpa using k1
        have b0 : 0 ≤ n0 ∧ n0 ≤ 255 := by simpa [Lit.wf, IntKind.min, IntKind.max, IntKind.signed, IntKind.bits] using w0
        have b1 : 0 ≤ n1 ∧ n1 ≤ 255 := by simpa [Lit.wf, IntKind.min, IntKind.max, IntKind.signed, IntKind.bits] using w1
        refine ⟨(n0.toNat, n1.toNat), ⟨by show n0.toNat < 256; omega, by show n1.toNat < 256; omega⟩, ?_, ?_⟩
        · have := hcells 0 (by decide)
          rw [add_of_add, Nat.add_zero] at this
          rw [this]
          show some (Value.int .u8 n0) = some (Value.int .u8 ((n0.toNat : Nat) : Int))
          rw [Int.toNat_of_nonneg b0.1]
        · have := hcells 1 (by decide)
          have hsp : (ad.add (i * 2)).add 1 = ⟨(ad.add (i * 2)).block, (ad.add (i * 2)).off + 1, none⟩ := rfl
          rw [hsp] at this
          rw [this]
          show some (Value.int .u8 n1) = some (Value.int .u8 ((n1.toNat : Nat) : Int))
          rw [Int.toNat_of_nonneg b1.1]
    obtain ⟨f, hf⟩ := Go.Deep.choose_lt key
    refine ⟨(List.range len).map f, by simp, hlc, fun y hy => ?_, fun hne => ⟨ad, rfl, fun i y hy => ?_, ?_⟩⟩
    · obtain ⟨i, hi, rfl⟩ := List.mem_map.1 hy
      exact (hf i (List.mem_range.1 hi)).1
    · have hi : i < len := by
        have := (List.getElem?_eq_some_iff.1 hy).1
        simpa using this
      rw [List.getElem?_map, List.getElem?_range hi] at hy
      obtain rfl : f i = y := by simpa using hy
      exact (hf i hi).2
    · have h0 : 0 < len := by
        rcases Nat.eq_zero_or_pos len with rfl | h0
        · exact absurd rfl hne
        · exact h0
      have := World.block_lt_of_cell? W _ (hf 0 h0).2.1
      rwa [block_of_add] at this
end Go.Proofs.YtljgpcaljedhpaaDoor
