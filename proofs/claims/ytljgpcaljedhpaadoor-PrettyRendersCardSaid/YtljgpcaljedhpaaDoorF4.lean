/- PrettyRenders returns true for every input; the input reads as it did. No condition. -/
import Derived.Test.YtljgpcaljedhpaaDoorFr
import Derived.Test.YtljgpcaljedhpaaDoorU1
import Derived.SizedLaws
import Derived.ChangeMaps5
namespace Go.Proofs.YtljgpcaljedhpaaDoor.fnRenders
open Go.ChangeShapes Go.WideShapes Go.ChangeAt Go.RowKit Go.Lib Go.ChangeMaps

theorem cells26 : Tryd.prog.cellsOf 26 = 5 := by kernel_rfl
theorem cells3_ : Tryd.prog.cellsOf 3 = 1 := by kernel_rfl
theorem cells9_ : Tryd.prog.cellsOf 9 = 1 := by kernel_rfl
theorem cells4_ : Tryd.prog.cellsOf 4 = 1 := by kernel_rfl
theorem bytes26 : Tryd.prog.bytesOf 26 = 48 := by kernel_rfl

theorem weights_all {H : Type} {e : TypeId} : ∀ {ds : List (DataW H)} {d : DataW H}, d ∈ ds → ∀ n ∈ d.weights Tryd.prog e, n ∈ DataW.weightsAll Tryd.prog e ds
  | d0 :: r, d, hd, n, hn => by
    simp only [DataW.weightsAll, List.mem_append]
    rcases List.mem_cons.1 hd with rfl | hd
    · exact .inl hn
    · exact .inr (weights_all hd n hn)

set_option maxRecDepth 100000 in
/-- A slice of operations that came in. -/
theorem open_ops {H : Type} {enc : TypeId × Value → H} {W : World} {a : Option Addr} {len cap fuel : Nat} {x : DataW H × List MemPlace}
    (h : DataW.trod enc Tryd.prog W 0 (fun _ => true) true fuel 27 [.slice a len cap] = some x) :
    ∃ l : List Op, l.length = len ∧ len ≤ cap ∧ OpsIn W a l ∧ ((∀ n ∈ x.1.weights Tryd.prog 27, n ≤ reachBytes) → l.length ≤ 140737488351232 ∧ ∀ y ∈ l, y.text.size ≤ 140737488351232) := by
  rcases Go.Deep.open_slice Tryd.underlying27 h with ⟨hc, _⟩ | ⟨ad, len', cap', m, n, D, Pl, hc, _, hlc, _, hm, hx0, hx⟩
  · obtain ⟨rfl, rfl, rfl⟩ : a = none ∧ len = 0 ∧ cap = 0 := by simpa using hc
    exact ⟨[], rfl, Nat.le_refl _, fun hne => absurd rfl hne, fun _ => ⟨by simp, fun y hy => by cases hy⟩⟩
  · obtain ⟨rfl, rfl, rfl⟩ : a = some ad ∧ len = len' ∧ cap = cap' := by simpa using hc
    simp only [if_true] at hm
    subst hm
    have key : ∀ i, i < len → ∃ y : Op, (W.cell? (ad.add (i * 5)) = some (.int .i64 y.kind) ∧ W.cell? ⟨(ad.add (i * 5)).block, (ad.add (i * 5)).off + 1, none⟩ = some (.string y.text) ∧
        W.cell? ⟨(ad.add (i * 5)).block, (ad.add (i * 5)).off + 2, none⟩ = some (.int .i64 y.n) ∧ W.cell? ⟨(ad.add (i * 5)).block, (ad.add (i * 5)).off + 3, none⟩ = some (.int .i64 y.m) ∧
        W.cell? ⟨(ad.add (i * 5)).block, (ad.add (i * 5)).off + 4, none⟩ = some (.bool y.flag)) ∧ y.text.size ∈ (D i).weights Tryd.prog 26 := by
      intro i hi
      obtain ⟨cs', h1, h2⟩ := hx i (by omega)
      rw [cells26] at h1
      obtain ⟨_, hlen, hcells⟩ := World.cells?_some h1
      obtain ⟨xs, fm, _, hD, _, hxl, hel⟩ := DataW.trod_struct Tryd.underlying26 h2
      match cs', hlen with
      | [u0, u1, u2, u3, u4], _ =>
        have e0 := hel 0 _ rfl
        have e1 := hel 1 _ rfl
        have e2 := hel 2 _ rfl
        have e3 := hel 3 _ rfl
        have e4 := hel 4 _ rfl
        change DataW.trod enc Tryd.prog W 0 (fun _ => true) true fm 3 (([u0, u1, u2, u3, u4].drop 0).take (Tryd.prog.cellsOf 3)) = xs[0]? at e0
        change DataW.trod enc Tryd.prog W 0 (fun _ => true) true fm 9 (([u0, u1, u2, u3, u4].drop 1).take (Tryd.prog.cellsOf 9)) = xs[1]? at e1
        change DataW.trod enc Tryd.prog W 0 (fun _ => true) true fm 3 (([u0, u1, u2, u3, u4].drop 2).take (Tryd.prog.cellsOf 3)) = xs[2]? at e2
        change DataW.trod enc Tryd.prog W 0 (fun _ => true) true fm 3 (([u0, u1, u2, u3, u4].drop 3).take (Tryd.prog.cellsOf 3)) = xs[3]? at e3
        change DataW.trod enc Tryd.prog W 0 (fun _ => true) true fm 4 (([u0, u1, u2, u3, u4].drop 4).take (Tryd.prog.cellsOf 4)) = xs[4]? at e4
        rw [cells3_] at e0 e2 e3
        rw [cells9_] at e1
        rw [cells4_] at e4
        match xs, hxl with
        | [x0, x1, x2, x3, x4], _ =>
          obtain ⟨n0, k0, q0, _⟩ := DataW.trod_int Tryd.underlying3 e0
          obtain ⟨t1, k1, q1, _⟩ := DataW.trod_string Tryd.underlying9 e1
          obtain ⟨n2, k2, q2, _⟩ := DataW.trod_int Tryd.underlying3 e2
          obtain ⟨n3, k3, q3, _⟩ := DataW.trod_int Tryd.underlying3 e3
          obtain ⟨f4, k4, q4⟩ := DataW.trod_bool Tryd.underlying4 e4
          obtain rfl : u0 = .int .i64 n0 := by simpa using k0
          obtain rfl : u1 = .string t1 := by simpa using k1
          obtain rfl : u2 = .int .i64 n2 := by simpa using k2
          obtain rfl : u3 = .int .i64 n3 := by simpa using k3
          obtain rfl : u4 = .bool f4 := by simpa using k4
          refine ⟨⟨n0, t1, n2, n3, f4⟩, ⟨?_, ?_, ?_, ?_, ?_⟩, ?_⟩
          · have := hcells 0 (by decide)
            rw [add_of_add, Nat.add_zero] at this
            exact this
          · have := hcells 1 (by decide)
            exact this
          · have := hcells 2 (by decide)
            exact this
          · have := hcells 3 (by decide)
            exact this
          · have := hcells 4 (by decide)
            exact this
          · have hd : D i = .agg ([x0, x1, x2, x3, x4].map (·.1)) := congrArg Prod.fst hD
            rw [hd, q1]
            simp [DataW.weights, Tryd.underlying26, DataW.weightsEach]
    haveI : Inhabited Op := ⟨⟨0, ⟨#[]⟩, 0, 0, false⟩⟩
    obtain ⟨f, hf⟩ := Go.Deep.choose_lt key
    refine ⟨(List.range len).map f, by simp, hlc, fun hne => ⟨ad, rfl, fun i y hy => ?_, ?_⟩, fun hw => ⟨?_, fun y hy => ?_⟩⟩
    · have hi : i < len := by
        have := (List.getElem?_eq_some_iff.1 hy).1
        simpa using this
      rw [List.getElem?_map, List.getElem?_range hi] at hy
      obtain rfl : f i = y := by simpa using hy
      exact (hf i hi).1
    · have h0 : 0 < len := by
        rcases Nat.eq_zero_or_pos len with rfl | h0
        · exact absurd rfl hne
        · exact h0
      have := World.block_lt_of_cell? W _ (hf 0 h0).1.1
      rwa [block_of_add] at this
    · rw [List.length_map, List.length_range]
      have hwt := congrArg Prod.fst hx0
      rw [hwt] at hw
      simp only [DataW.weights, Tryd.underlying27, bytes26] at hw
      have := hw _ (List.mem_cons_self ..)
      simp only [List.length_map, List.length_range] at this
      have e : reachBytes = 140737488351232 := rfl
      omega
    · have hwt := congrArg Prod.fst hx0
      obtain ⟨i, hi, rfl⟩ := List.mem_map.1 hy
      have h1 := (hf i (List.mem_range.1 hi)).2
      have := hw _ (by
        rw [hwt]
        simp only [DataW.weights, Tryd.underlying27]
        exact List.mem_cons_of_mem _ (List.mem_append_left _ (weights_all (List.mem_map.2 ⟨i, hi, rfl⟩) _ h1)))
      exact this

theorem witness_row (os : Os) {H : Type} (enc : TypeId × Value → H) :
    (OpenSpec.ofChange Rows.prettyRendersSpec).preRow enc Tryd.prog Tryd.f5 Rows.prettyRendersRow.domain false Rows.prettyRendersRow.laid ((laidWorld os).forCall (fun _ _ => 0) ⟨#[], #[.slice none 0 0, .int .i64 0, .int .i64 0, .string ⟨#[]⟩], []⟩).memory #[.slice none 0 0, .int .i64 0, .int .i64 0, .string ⟨#[]⟩] := by
  have hw : (DataW.whole enc Tryd.prog ((laidWorld os).forCall (fun _ _ => 0) ⟨#[], #[.slice none 0 0, .int .i64 0, .int .i64 0, .string ⟨#[]⟩], []⟩).memory Tryd.f5.params.toList Rows.prettyRendersSpec.vars false #[Value.slice none 0 0, .int .i64 0, .int .i64 0, .string ⟨#[]⟩].toList 8).map (fun x => (x.1, x.2.1)) =
      some ([.nil, .lit (.int .i64 0), .lit (.int .i64 0), .lit (.string [])], []) := by kernel_rfl
  obtain ⟨⟨x1, x2, x3⟩, hx, hx1⟩ := Option.map_eq_some_iff.1 hw
  simp only [Prod.mk.injEq] at hx1
  obtain ⟨rfl, rfl⟩ := hx1
  exact OpenSpec.preRow_of_cond 8 hx (by kernel_rfl) (fun k hk => by cases hk) (by kernel_rfl) (laid_met os _)

set_option maxRecDepth 100000 in
set_option maxHeartbeats 2000000 in
theorem lifted (os : Os) (started : os.Started) (H : Type) (enc : TypeId × Value → H) (F : Stop.Interp) :
    ReturnsInHanded {} Tryd.checked os 5 .any ((OpenSpec.ofChange Rows.prettyRendersSpec).preRow enc Tryd.prog Tryd.f5 Rows.prettyRendersRow.domain false Rows.prettyRendersRow.laid) (((OpenSpec.ofChange Rows.prettyRendersSpec).at F).post enc Tryd.prog Tryd.f5 false true false false) := by
  refine returnsInHanded_of_row (C := Tryd.checked) (s := OpenSpec.ofChange Rows.prettyRendersSpec) own started (by kernel_rfl) Tryd.func5
    (witness_row_atRef (enc := enc) (C := Tryd.checked) false (laidWorld os) #[.slice none 0 0, .int .i64 0, .int .i64 0, .string ⟨#[]⟩] rfl (by kernel_rfl) (by kernel_rfl) (by kernel_rfl) (witness_row os enc)) ?_
  intro W base args ds gs before hval0 hW _ _ hsz0 hL hsh _
  have hval : ∀ (j : Nat) t v, Tryd.f5.params[j]? = some t → args[j]? = some v → Value.okWide Tryd.prog W .any base t v := hval0
  have hsz : (DataW.weightsEach Tryd.prog (Tryd.f5.params.toList ++ (OpenSpec.ofChange Rows.prettyRendersSpec).bare.plain.varTypes Tryd.prog) (ds ++ gs)).all (· ≤ reachBytes) = true := hsz0
  have hW' := hW
  obtain ⟨p, q, hA0, hV0, rfl, _, _⟩ := hW
  have hA : DataW.TrodAll enc Tryd.prog W 0 (fun _ => true) true Tryd.f5.params.toList args.toList ds p := hA0
  rw [Tryd.params5] at hA hval hsz
  obtain ⟨v0, v1, v2, v3, d0, d1, d2, d3, p0, p1, p2, p3, rfl, rfl, rfl, h0, h1, h2, h3⟩ := trodAll_four hA
  obtain ⟨rfl, rfl⟩ := trodVars_none hV0
  obtain ⟨wd, rfl, rfl, rfl, w1⟩ := open_int Tryd.underlying3 (hval 1 3 v1 rfl rfl) h1
  obtain ⟨ms, rfl, rfl, rfl, w2⟩ := open_int Tryd.underlying3 (hval 2 3 v2 rfl rfl) h2
  obtain ⟨st, rfl, rfl, rfl, _⟩ := open_string Tryd.underlying9 (hval 3 9 v3 rfl rfl) h3
  obtain ⟨a, len, cap, rfl⟩ := okWide_slice Tryd.underlying27 (hval 0 27 v0 rfl rfl)
  have h0k := h0
  obtain ⟨fuel0, hf0⟩ := h0
  obtain ⟨l, rfl, hlc, hin, hbig⟩ := open_ops hf0
  have b3 : st.size ≤ 140737488351232 := by
    have := sized_string hsz (j := 3) (t := 9) (bytes := st.data.toList) rfl rfl
    have e : reachBytes = 140737488351232 := rfl
    rw [data_len] at this
    omega
  obtain ⟨b4, b5⟩ := hbig (fun n hn => by
    have := List.all_eq_true.1 hsz n (DataW.weights_mem_each (j := 0) (t := 27) (d := d0) rfl rfl n hn)
    simpa using this)
  clear hA0 hV0 hval0
  have hlt : ∀ x ∈ p0, x.block < W.heap.size := fun x hx => hW'.lt x (by simp [hx])
  refine (renders_law libC libS a l cap wd ms st W (env_of hL hsh) hin hlc b4 b5 b3).mono ?_
  rintro e W' ⟨rfl, bel⟩
  have e1 : ((OpenSpec.ofChange Rows.prettyRendersSpec).at F).fn H ([d0, .lit (.int .i64 wd), .lit (.int .i64 ms), .lit (.string st.data.toList)] ++ []) = { results := [.lit (.bool true)], args := [d0, .lit (.int .i64 wd), .lit (.int .i64 ms), .lit (.string st.data.toList)] } := rfl
  refine ⟨_, rfl, _, _, _, [], p0 ++ ([] ++ ([] ++ [])), [], hW', ?_, ?_, ?_, bel.frame _, fun h => by cases h⟩
  · rw [e1]; exact trodAll_mk1 (shut_bool Tryd.underlying4 _)
  · rw [e1]; exact trodAll_mk4 (Below.trod laidOut (by kernel_rfl) (of_decide_eq_true (by kernel_rfl)) h0k bel hlt) (shut_int Tryd.underlying3 w1) (shut_int Tryd.underlying3 w2) (shut_string Tryd.underlying9 (by unfold maxLen; omega))
  · rw [e1]; rfl

theorem said : Rows.PrettyRendersSaid :=
  OpenClaim.holds_of_cond 5 Tryd.f5 rfl rfl rfl rfl rfl rfl rfl ⟨rfl, rfl, rfl, rfl, rfl⟩ rfl rfl rfl rfl rfl (by kernel_rfl) Tryd.func5 (by kernel_rfl)
    (of_decide_eq_true (by kernel_rfl)) (by unfold Func.isWrapper; first | (rw [if_pos (by decide +kernel)]; kernel_rfl) | (rw [if_neg (by decide +kernel)]; exact ⟨rfl, rfl⟩))
    (fun os started H enc _ F => by rw [OpenClaim.pre_eq_preRow]; exact lifted os started H enc F)

theorem plain (f : FuncId) (fn : Func) (hf : Tryd.pinned.checked.prog.funcNamed "commonform/commonformlaw09.PrettyRenders" = some f) (hfn : Tryd.pinned.checked.prog.funcs[f]? = some fn) :
    true = Tryd.pinned.checked.prog.looks [] ∧ ∀ (j : Nat) t, fn.params[j]? = some t → Tryd.pinned.checked.prog.wantsStandIn t = false := by
  obtain rfl : f = 5 := Option.some.inj ((show Tryd.prog.funcNamed "commonform/commonformlaw09.PrettyRenders" = some 5 by kernel_rfl).symm.trans hf) |>.symm
  obtain rfl : fn = Tryd.f5 := (Option.some.inj (Tryd.func5.symm.trans hfn)).symm
  refine ⟨by kernel_rfl, fun j t ht => ?_⟩
  rw [Tryd.params5] at ht
  have : t = 27 ∨ t = 3 ∨ t = 9 := by
    have := Array.mem_of_getElem? ht
    simpa using this
  rcases this with rfl | rfl | rfl
  · exact (show Tryd.prog.wantsStandIn 27 = false by kernel_rfl)
  · exact (show Tryd.prog.wantsStandIn 3 = false by kernel_rfl)
  · exact (show Tryd.prog.wantsStandIn 9 = false by kernel_rfl)

/-- THE CARD. -/
theorem card : Rows.PrettyRendersCardSaid :=
  Claim7.holds_tied_plain_at .later [] _ _ _ _ said (fun _ h => by cases h) (by kernel_rfl) (fun _ h => by cases h) prettyRenders_row_tie rfl ⟨rfl, rfl⟩ (by kernel_rfl) rfl plain (by kernel_rfl)
end Go.Proofs.YtljgpcaljedhpaaDoor.fnRenders
