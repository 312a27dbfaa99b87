/- PrettyBlocks returns true for every input; the input reads as it did. No condition. -/
import Derived.Test.YtljgpcaljedhpaaDoorFr
import Derived.Test.YtljgpcaljedhpaaDoorY7
namespace Go.Proofs.YtljgpcaljedhpaaDoor.fnBlocks
open Go.ChangeShapes Go.WideShapes Go.ChangeAt Go.RowKit Go.Lib

theorem cells5 : Tryd.prog.cellsOf 5 = 1 := by kernel_rfl

/-- A slice of bytes that came in. -/
theorem open_bytes {H : Type} {enc : TypeId × Value → H} {W : World} {a : Option Addr} {len cap fuel : Nat} {x : DataW H × List MemPlace}
    (h : DataW.trod enc Tryd.prog W 0 (fun _ => true) true fuel 22 [.slice a len cap] = some x) :
    ∃ l : List Nat, l.length = len ∧ len ≤ cap ∧ (∀ y ∈ l, y < 256) ∧ BytesIn W a l := by
  rcases Go.Deep.open_slice1 Tryd.underlying22 cells5 h with ⟨hc, _⟩ | ⟨ad, len', cap', m, n, V, D, Pl, hc, _, hlc, _, hm, _, hx⟩
  · obtain ⟨rfl, rfl, rfl⟩ : a = none ∧ len = 0 ∧ cap = 0 := by simpa using hc
    exact ⟨[], rfl, Nat.le_refl _, fun y hy => (by cases hy), fun hne => absurd rfl hne⟩
  · obtain ⟨rfl, rfl, rfl⟩ : a = some ad ∧ len = len' ∧ cap = cap' := by simpa using hc
    simp only [if_true] at hm
    subst hm
    have key : ∀ i, i < len → ∃ y : Nat, y < 256 ∧ W.cell? (ad.add i) = some (.int .u8 y) := by
      intro i hi
      obtain ⟨h1, h2⟩ := hx i (by omega)
      obtain ⟨n0, k0, _, w0⟩ := DataW.trod_int Tryd.underlying5 h2
      have e : V i = .int .u8 n0 := by simpa using k0
      have b0 : 0 ≤ n0 ∧ n0 ≤ 255 := by simpa [Lit.wf, IntKind.min, IntKind.max, IntKind.signed, IntKind.bits] using w0
      refine ⟨n0.toNat, by omega, ?_⟩
      rw [h1, e]
      show some (Value.int .u8 n0) = some (Value.int .u8 ((n0.toNat : Nat) : Int))
      rw [Int.toNat_of_nonneg b0.1]
    obtain ⟨f, hf⟩ := Go.Deep.choose_lt key
    refine ⟨(List.range len).map f, by simp, hlc, fun y hy => ?_, fun hne => ⟨ad, rfl, fun i y hy => ?_, ?_⟩⟩
    · obtain ⟨i, hi, rfl⟩ := List.mem_map.1 hy
      exact (hf i (List.mem_range.1 hi)).1
    · have hi : i < len := by
        have := (List.getElem?_eq_some_iff.1 hy).1
        simpa using this
      rw [List.getElem?_map, List.getElem?_range hi] at hy
      obtain rfl : f i = y := by simpa using hy
      exact (hf i hi).2
    · have h0 : 0 < len := by
        rcases Nat.eq_zero_or_pos len with rfl | h0
        · exact absurd rfl hne
        · exact h0
      have := World.block_lt_of_cell? W _ (hf 0 h0).2
      rwa [block_of_add] at this

theorem witness_row (os : Os) {H : Type} (enc : TypeId × Value → H) :
    (OpenSpec.ofChange Rows.prettyBlocksSpec).preRow enc Tryd.prog Tryd.f3 Rows.prettyBlocksRow.domain false Rows.prettyBlocksRow.laid ((laidWorld os).forCall (fun _ _ => 0) ⟨#[], #[.slice none 0 0, .int .u8 0, .int .u8 0, .int .u8 0], []⟩).memory #[.slice none 0 0, .int .u8 0, .int .u8 0, .int .u8 0] := by
  have hw : (DataW.whole enc Tryd.prog ((laidWorld os).forCall (fun _ _ => 0) ⟨#[], #[.slice none 0 0, .int .u8 0, .int .u8 0, .int .u8 0], []⟩).memory Tryd.f3.params.toList Rows.prettyBlocksSpec.vars false #[Value.slice none 0 0, .int .u8 0, .int .u8 0, .int .u8 0].toList 8).map (fun x => (x.1, x.2.1)) =
      some ([.nil, .lit (.int .u8 0), .lit (.int .u8 0), .lit (.int .u8 0)], []) := by kernel_rfl
  obtain ⟨⟨x1, x2, x3⟩, hx, hx1⟩ := Option.map_eq_some_iff.1 hw
  simp only [Prod.mk.injEq] at hx1
  obtain ⟨rfl, rfl⟩ := hx1
  exact OpenSpec.preRow_of_cond 8 hx (by kernel_rfl) (fun k hk => by cases hk) (by kernel_rfl) (laid_met os _)

set_option maxRecDepth 100000 in
set_option maxHeartbeats 2000000 in
theorem lifted (os : Os) (started : os.Started) (H : Type) (enc : TypeId × Value → H) (F : Stop.Interp) :
    ReturnsInHanded {} Tryd.checked os 3 .any ((OpenSpec.ofChange Rows.prettyBlocksSpec).preRow enc Tryd.prog Tryd.f3 Rows.prettyBlocksRow.domain false Rows.prettyBlocksRow.laid) (((OpenSpec.ofChange Rows.prettyBlocksSpec).at F).post enc Tryd.prog Tryd.f3 false true false false) := by
  refine returnsInHanded_of_row (C := Tryd.checked) (s := OpenSpec.ofChange Rows.prettyBlocksSpec) own started (by kernel_rfl) Tryd.func3
    (witness_row_atRef (enc := enc) (C := Tryd.checked) false (laidWorld os) #[.slice none 0 0, .int .u8 0, .int .u8 0, .int .u8 0] rfl (by kernel_rfl) (by kernel_rfl) (by kernel_rfl) (witness_row os enc)) ?_
  intro W base args ds gs before hval0 hW _ _ _ hL hsh _
  have hval : ∀ (j : Nat) t v, Tryd.f3.params[j]? = some t → args[j]? = some v → Value.okWide Tryd.prog W .any base t v := hval0
  have hW' := hW
  obtain ⟨p, q, hA0, hV0, rfl, _, _⟩ := hW
  have hA : DataW.TrodAll enc Tryd.prog W 0 (fun _ => true) true Tryd.f3.params.toList args.toList ds p := hA0
  rw [Tryd.params3] at hA hval
  obtain ⟨v0, v1, v2, v3, d0, d1, d2, d3, p0, p1, p2, p3, rfl, rfl, rfl, h0, h1, h2, h3⟩ := trodAll_four hA
  obtain ⟨rfl, rfl⟩ := trodVars_none hV0
  obtain ⟨wd, rfl, rfl, rfl, w1⟩ := open_int Tryd.underlying5 (hval 1 5 v1 rfl rfl) h1
  obtain ⟨ms, rfl, rfl, rfl, w2⟩ := open_int Tryd.underlying5 (hval 2 5 v2 rfl rfl) h2
  obtain ⟨ah, rfl, rfl, rfl, w3⟩ := open_int Tryd.underlying5 (hval 3 5 v3 rfl rfl) h3
  obtain ⟨a, len, cap, rfl⟩ := okWide_slice Tryd.underlying22 (hval 0 22 v0 rfl rfl)
  have h0k := h0
  obtain ⟨fuel0, hf0⟩ := h0
  obtain ⟨l, rfl, hlc, hb, hin⟩ := open_bytes hf0
  have b1 : 0 ≤ wd ∧ wd ≤ 255 := by simpa [Lit.wf, IntKind.min, IntKind.max, IntKind.signed, IntKind.bits] using w1
  have b2 : 0 ≤ ms ∧ ms ≤ 255 := by simpa [Lit.wf, IntKind.min, IntKind.max, IntKind.signed, IntKind.bits] using w2
  have b3 : 0 ≤ ah ∧ ah ≤ 255 := by simpa [Lit.wf, IntKind.min, IntKind.max, IntKind.signed, IntKind.bits] using w3
  clear hA0 hV0 hval0
  have hlt : ∀ x ∈ p0, x.block < W.heap.size := fun x hx => hW'.lt x (by simp [hx])
  have hcall := blocks_all a l cap wd.toNat ms.toNat ah.toNat W (env_of hL hsh) hin hb hlc (by omega) (by omega) (by omega)
  rw [Int.toNat_of_nonneg b1.1, Int.toNat_of_nonneg b2.1, Int.toNat_of_nonneg b3.1] at hcall
  refine hcall.mono ?_
  rintro e W' ⟨rfl, bel⟩
  have e1 : ((OpenSpec.ofChange Rows.prettyBlocksSpec).at F).fn H ([d0, .lit (.int .u8 wd), .lit (.int .u8 ms), .lit (.int .u8 ah)] ++ []) = { results := [.lit (.bool true)], args := [d0, .lit (.int .u8 wd), .lit (.int .u8 ms), .lit (.int .u8 ah)] } := rfl
  refine ⟨_, rfl, _, _, _, [], p0 ++ ([] ++ ([] ++ [])), [], hW', ?_, ?_, ?_, bel.frame _, fun h => by cases h⟩
  · rw [e1]; exact trodAll_mk1 (shut_bool Tryd.underlying4 _)
  · rw [e1]; exact trodAll_mk4 (Below.trod laidOut (by kernel_rfl) (of_decide_eq_true (by kernel_rfl)) h0k bel hlt) (shut_int Tryd.underlying5 w1) (shut_int Tryd.underlying5 w2) (shut_int Tryd.underlying5 w3)
  · rw [e1]; rfl

theorem said : Rows.PrettyBlocksSaid :=
  OpenClaim.holds_of_cond 3 Tryd.f3 rfl rfl rfl rfl rfl rfl rfl ⟨rfl, rfl, rfl, rfl, rfl⟩ rfl rfl rfl rfl rfl (by kernel_rfl) Tryd.func3 (by kernel_rfl)
    (of_decide_eq_true (by kernel_rfl)) (by unfold Func.isWrapper; first | (rw [if_pos (by decide +kernel)]; kernel_rfl) | (rw [if_neg (by decide +kernel)]; exact ⟨rfl, rfl⟩))
    (fun os started H enc _ F => by rw [OpenClaim.pre_eq_preRow]; exact lifted os started H enc F)

theorem plain (f : FuncId) (fn : Func) (hf : Tryd.pinned.checked.prog.funcNamed "commonform/commonformlaw09.PrettyBlocks" = some f) (hfn : Tryd.pinned.checked.prog.funcs[f]? = some fn) :
    true = Tryd.pinned.checked.prog.looks [] ∧ ∀ (j : Nat) t, fn.params[j]? = some t → Tryd.pinned.checked.prog.wantsStandIn t = false := by
  obtain rfl : f = 3 := Option.some.inj ((show Tryd.prog.funcNamed "commonform/commonformlaw09.PrettyBlocks" = some 3 by kernel_rfl).symm.trans hf) |>.symm
  obtain rfl : fn = Tryd.f3 := (Option.some.inj (Tryd.func3.symm.trans hfn)).symm
  refine ⟨by kernel_rfl, fun j t ht => ?_⟩
  rw [Tryd.params3] at ht
  have : t = 22 ∨ t = 5 := by
    have := Array.mem_of_getElem? ht
    simpa using this
  rcases this with rfl | rfl
  · exact (show Tryd.prog.wantsStandIn 22 = false by kernel_rfl)
  · exact (show Tryd.prog.wantsStandIn 5 = false by kernel_rfl)

/-- THE CARD. -/
theorem card : Rows.PrettyBlocksCardSaid :=
  Claim7.holds_tied_plain_at .later [] _ _ _ _ said (fun _ h => by cases h) (by kernel_rfl) (fun _ h => by cases h) prettyBlocks_row_tie rfl ⟨rfl, rfl⟩ (by kernel_rfl) rfl plain (by kernel_rfl)
end Go.Proofs.YtljgpcaljedhpaaDoor.fnBlocks
