/- The reference's step, walked: an indent and a newline; then step, whatever the operation. -/
import Derived.Test.YtljgpcaljedhpaaDoorS6
namespace Go.Proofs.YtljgpcaljedhpaaDoor
open Go.RowKit

theorem setTop_top (s : St) (h : s.blocks ≠ []) : setTop s.blocks (topOf s) = s.blocks := by
  unfold setTop topOf
  rw [List.getLastD_eq_getLast?, List.getLast?_eq_some_getLast h]
  exact List.dropLast_concat_getLast h
theorem bks_top {w : World} {rb : Nat} {s : St} (h : BksAt w ⟨rb, 0, none⟩ s.blocks) (hne : s.blocks ≠ []) :
    w.cell? ⟨rb, (s.blocks.length - 1) * 9, none⟩ = some (.int .i64 (topOf s).start) ∧ w.cell? ⟨rb, (s.blocks.length - 1) * 9 + 1, none⟩ = some (.int .i64 (topOf s).indent) ∧
    w.cell? ⟨rb, (s.blocks.length - 1) * 9 + 2, none⟩ = some (.bool (topOf s).long) ∧ w.cell? ⟨rb, (s.blocks.length - 1) * 9 + 3, none⟩ = some (.bool (topOf s).miser) ∧
    w.cell? ⟨rb, (s.blocks.length - 1) * 9 + 4, none⟩ = some (.string (topOf s).pre) ∧ w.cell? ⟨rb, (s.blocks.length - 1) * 9 + 5, none⟩ = some (.bool (topOf s).each) ∧
    w.cell? ⟨rb, (s.blocks.length - 1) * 9 + 6, none⟩ = some (.int .i64 (topOf s).front) ∧ w.cell? ⟨rb, (s.blocks.length - 1) * 9 + 7, none⟩ = some (.bool (!(topOf s).slong)) ∧
    w.cell? ⟨rb, (s.blocks.length - 1) * 9 + 8, none⟩ = some (.int .i64 (topOf s).lines) := by
  have := h _ _ (top_at hne)
  simpa only [add_plain, Nat.zero_add] using this

theorem SmSt.more {s : St} {N : Nat} (h : SmSt s N) (M : Nat) {t : ByteArray} (ht : t.size ≤ M) : SmSt (putRaw s t) (N + M) := h.put ht (Nat.le_refl _)
theorem rprefixes_sm : ∀ (l : List Bk) (s : St) (N K : Nat), SmSt s N → (∀ b ∈ l, BkOk b) → N + 1020000 * l.length ≤ K → SmSt (rprefixesP l s) K
  | [], s, N, K, h, _, hK => by
    have := h.a1; have := h.l1; have := h.len
    simp at hK
    exact ⟨h.a0, by show s.at_ ≤ _; omega, h.l0, by show s.lines ≤ _; omega, by show s.out.length ≤ _; omega⟩
  | b :: r, s, N, K, h, hb, hK => by
    have hr : ∀ c ∈ r, BkOk c := fun c hc => hb c (by simp [hc])
    have hbb := hb b (by simp)
    rw [List.length_cons] at hK
    unfold rprefixesP
    split
    · have h0 := h.a0
      have h1 := hbb.f1
      have hz := spB_size (b.front - s.at_).toNat
      have hz2 : (spB (b.front - s.at_).toNat).size ≤ 1000000 := by rw [hz]; omega
      have p1 := h.more 1000000 hz2
      have p2 := p1.more 20000 hbb.pr
      rw [Nat.add_assoc] at p2
      exact rprefixes_sm r _ (N + 1020000) K p2 hr (by omega)
    · exact rprefixes_sm r s N K h hr (by omega)
set_option maxRecDepth 100000 in
theorem rbroken_sm {s : St} (h : BrokenAsks s) : SmSt (rbrokenP s) 1100000000 := by
  unfold rbrokenP
  have h1 : SmSt (putRaw { s with out := trimR s.out } ⟨#[10]⟩) 1000001 := by
    refine SmSt.put (N := 1000000) (M := 1) ⟨h.a0, h.a1, h.ln0, h.ln1, ?_⟩ (by decide) (by decide)
    have := trimR_len s.out
    exact Nat.le_trans this h.len
  have h2 := rprefixes_sm s.blocks _ 1000001 1090000000 h1 h.bk (by have := h.few; omega)
  have h3 := (h.bk _ (topOf_mem h.ne)).i1
  have h4 := h2.a0
  refine h2.put (M := 1000000) ?_ (by decide)
  rw [spB_size]
  omega

theorem last_grown {w V Z : World} {base rb n c : Nat} (hV : Below w.heap.size w V) (hoth : ∀ k, k ≠ rb → Z.heap[k]? = V.heap[k]?) (hb : Below base V Z) (cs : Array Value) : w.grownBy (Z.setRow (w.heap.size + 1) cs) (Value.slice (some ⟨rb, 0, none⟩) n c).ownBlock :=
  ⟨hb.os.trans hV.os, hb.tape.trans hV.tape, hb.output.trans hV.output, by rw [size_setRow]; exact Nat.le_trans hV.size hb.size, fun k hk hne => by
    rw [setRow_other _ _ _ _ (by omega), hoth k (fun e => hne (by rw [e]; rfl))]
    exact hV.block k hk⟩
theorem after_last {w V Z : World} {W : Int} {sl : Value} {s : St} {base rb n n' c : Nat} {xs : List Value} (hP : PgAt w W sl s V) (hO : V.ownsRow base 83 9 (.slice (some ⟨rb, 0, none⟩) n c) n' xs) (hoth : ∀ k, k ≠ rb → Z.heap[k]? = V.heap[k]?) :
    Z.heap[w.heap.size]? = some (.cells (pgC s W sl) 86 (0, 0)) ∧ Z.heap[w.heap.size + 1]? = some (.cells #[.string ⟨#[]⟩, .int .i64 0, .int .i64 0, .int .i64 0, .slice none 0 0] 86 (0, 0)) := by
  have h0 := own_ne hO hP.pg (by decide)
  have h1 := own_ne hO hP.res (by decide)
  exact ⟨(hoth _ (fun e => h0 (by rw [e]; rfl))).trans hP.pg, (hoth _ (fun e => h1 (by rw [e]; rfl))).trans hP.res⟩

section
variable {w0 w : World} {A : Option Addr} {l : List Op} {lcap : Nat} {s : St} {bv : Value} {W M : Int} {i : Nat} {x : Op}

set_option maxRecDepth 100000 in
set_option maxHeartbeats 1600000 in
theorem rstep_indent (h : StepAsks w0 A l lcap s bv W w) (hx : l[i]? = some x) (hk : x.kind = 4) :
    Calls Tryd.prog 43 #[pageV s W bv, .slice A l.length lcap, .int .i64 i, .int .i64 M] w
      (StepSays w0 w bv (if (topOf s).miser = true then s else { s with blocks := setTop s.blocks { topOf s with indent := max (if x.flag = true then s.at_ + x.n else (topOf s).start + x.n) 0 } }) W) := by
  obtain ⟨rb, c, rfl, hp, _⟩ := h.page
  have hi := (List.getElem?_eq_some_iff.1 hx).1
  have hl4 := h.len
  have hlc := h.lcap
  have hfew := h.br.few
  obtain ⟨hval, hts⟩ := h.ok x (List.mem_of_getElem? hx)
  obtain ⟨aop, rfl, ho, hlo⟩ := hp.ops (by rintro rfl; simp at hi)
  obtain ⟨a0, a1, a2, a3, a4⟩ := ho i x hx
  obtain ⟨n0, n1⟩ := hval.ind hk
  have hne := List.length_pos_iff.2 h.br.ne
  have hcl := hp.cap
  have e1 : ((s.blocks.length : Nat) : Int) - 1 = ((s.blocks.length - 1 : Nat) : Int) := by omega
  have hltq : s.blocks.length - 1 < s.blocks.length := by omega
  obtain ⟨b0, b1, b2, b3, b4, b5, b6, b7, b8⟩ := bks_top hp.bks h.br.ne
  have hself := setTop_top s h.br.ne
  have hbt := h.br.bk _ (topOf_mem h.br.ne)
  have t0 := hbt.s0
  have t1 := hbt.s1
  have at0 := h.br.a0
  have at1 := h.br.a1
  have HQ := Lib.hid (show s.blocks.length = (s.blocks.length - 1) + 1 by omega)
  generalize htt : topOf s = b at *
  obtain ⟨bst, bin, bfr, bpre, blo, bmi, bea, bli, bsl⟩ := b
  obtain ⟨xk, xt, xn, xm, xf⟩ := x
  simp only at a0 a1 a2 a3 a4 hts hk b0 b1 b2 b3 b4 b5 b6 b7 b8 n0 n1 t0 t1
  subst hk
  have HH := Lib.hid h
  have y0 := al2 a0
  have y1 := al2 a1
  have y2 := al2 a2
  have y3 := al2 a3
  have y4 := al2 a4
  have z0 := fun o o' o'' => al1 (al2 b0 o o') o''
  have z1 := fun o o' o'' => al1 (al2 b1 o o') o''
  have z2 := fun o o' o'' => al1 (al2 b2 o o') o''
  have z3 := fun o o' o'' => al1 (al2 b3 o o') o''
  have z4 := fun o o' o'' => al1 (al2 b4 o o') o''
  have z5 := fun o o' o'' => al1 (al2 b5 o o') o''
  have z6 := fun o o' o'' => al1 (al2 b6 o o') o''
  have z7 := fun o o' o'' => al1 (al2 b7 o o') o''
  have z8 := fun o o' o'' => al1 (al2 b8 o o') o''
  obtain ⟨hp0, _⟩ := three_at w s W (.slice (some ⟨rb, 0, none⟩) s.blocks.length c) #[.int .i64 4, .string xt, .int .i64 xn, .int .i64 xm, .bool xf]
  have HP4 := fun o => Lib.hid (hp0.bel (new1 _ o))
  have HOV := fun o => Lib.hid (own_below h.own (HP4 o).out.below)
  have HSELF := Lib.hid hself
  clear h hx hval ho hp a0 a1 a2 a3 a4 hp0 htt b0 b1 b2 b3 b4 b5 b6 b7 b8 hself hbt
  unfold pageV
  have fin : ∀ (b : Bk) (o : Obj) (Z : World) (_ : Z.ownsRow w0.heap.size 83 9 (.slice (some ⟨rb, 0, none⟩) s.blocks.length c) (setTop s.blocks b).length (rbC (setTop s.blocks b)))
      (_ : ∀ k, k ≠ rb → Z.heap[k]? = ((((w.alloc (.cells (pgC s W (.slice (some ⟨rb, 0, none⟩) s.blocks.length c)) 86)).alloc (.cells #[.string ⟨#[]⟩, .int .i64 0, .int .i64 0, .int .i64 0, .slice none 0 0] 86)).alloc (.cells #[.int .i64 4, .string xt, .int .i64 xn, .int .i64 xm, .bool xf] 77)).alloc o).heap[k]?)
      (_ : ∀ (w1 : World), Below w0.heap.size w1 ((((w.alloc (.cells (pgC s W (.slice (some ⟨rb, 0, none⟩) s.blocks.length c)) 86)).alloc (.cells #[.string ⟨#[]⟩, .int .i64 0, .int .i64 0, .int .i64 0, .slice none 0 0] 86)).alloc (.cells #[.int .i64 4, .string xt, .int .i64 xn, .int .i64 xm, .bool xf] 77)).alloc o) → Below w0.heap.size w1 Z),
      Hid (Z.heap[w.heap.size]? = some (.cells (pgC s W (.slice (some ⟨rb, 0, none⟩) s.blocks.length c)) 86 (0, 0)) ∧ Z.heap[w.heap.size + 1]? = some (.cells #[.string ⟨#[]⟩, .int .i64 0, .int .i64 0, .int .i64 0, .slice none 0 0] 86 (0, 0)) ∧
        StepSays w0 w (.slice (some ⟨rb, 0, none⟩) s.blocks.length c) { s with blocks := setTop s.blocks b } W (.returned (.agg (pgC s W (.slice (some ⟨rb, 0, none⟩) s.blocks.length c)))) (Z.setRow (w.heap.size + 1) (pgC s W (.slice (some ⟨rb, 0, none⟩) s.blocks.length c)))) := fun b o Z hO hoth hbel => by
    obtain ⟨k0, k1⟩ := after_last (HP4 o).out (HOV o).out hoth
    refine Lib.hid ⟨k0, k1, _, rfl, own_setRow hO (own_ne hO k1 (by decide)) _, ?_⟩
    exact ⟨below_setRow (hbel _ (HH.out.below.trans ((HP4 o).out.below.mono HH.out.below.size))) (Nat.le_trans HH.out.below.size (Nat.le_succ _)) _, last_grown (HP4 o).out.below hoth (hbel _ (Below.refl _ _)) _⟩
  have FIN := Lib.hid fin
  clear fin
  cases bmi
  · simp only [Bool.false_eq_true, reduceIte]
    cases xf
    · simp only [Bool.false_eq_true, reduceIte]
      go_enter Tryd.func43, Tryd.ntmps43
      go_wp2_with (refine wpList_store_last rfl _ _ rfl ({ start := bst, indent := max (bst + xn) 0, front := bfr, pre := bpre, long := blo, miser := false, each := bea, lines := bli, slong := bsl } : Bk) rfl rfl (HOV _).out HQ.out ?_)
      intro Z hO hoth hbel
      obtain ⟨kp, kr, kf⟩ := (FIN.out _ _ Z hO hoth hbel).out
      have KF := Lib.hid kf
      have KR := Lib.hid kr
      obtain ⟨g0, g1, g2, g3, g4⟩ := pg_cell kp
      clear hO hoth hbel kf kr kp FIN HP4 HOV
      go_wp2_with (refine wpList_store_row rfl 86 _ _ rfl (w.heap.size + 1) (pgC s W (.slice (some ⟨rb, 0, none⟩) s.blocks.length c)) rfl rfl 86 _ KR.out size86 rfl pgC_one ?_)
      exact ret86 rfl (w.heap.size + 1) (pgC s W (.slice (some ⟨rb, 0, none⟩) s.blocks.length c)) rfl (setRow_heap _ _ _ _ _ _ KR.out) rfl rfl KF.out
    · simp only [reduceIte]
      go_enter Tryd.func43, Tryd.ntmps43
      go_wp2_with (refine wpList_store_last rfl _ _ rfl ({ start := bst, indent := max (s.at_ + xn) 0, front := bfr, pre := bpre, long := blo, miser := false, each := bea, lines := bli, slong := bsl } : Bk) rfl rfl (HOV _).out HQ.out ?_)
      intro Z hO hoth hbel
      obtain ⟨kp, kr, kf⟩ := (FIN.out _ _ Z hO hoth hbel).out
      have KF := Lib.hid kf
      have KR := Lib.hid kr
      obtain ⟨g0, g1, g2, g3, g4⟩ := pg_cell kp
      clear hO hoth hbel kf kr kp FIN HP4 HOV
      go_wp2_with (refine wpList_store_row rfl 86 _ _ rfl (w.heap.size + 1) (pgC s W (.slice (some ⟨rb, 0, none⟩) s.blocks.length c)) rfl rfl 86 _ KR.out size86 rfl pgC_one ?_)
      exact ret86 rfl (w.heap.size + 1) (pgC s W (.slice (some ⟨rb, 0, none⟩) s.blocks.length c)) rfl (setRow_heap _ _ _ _ _ _ KR.out) rfl rfl KF.out
  · simp only [reduceIte]
    have hs : ({ s with blocks := setTop s.blocks { start := bst, indent := bin, front := bfr, pre := bpre, long := blo, miser := true, each := bea, lines := bli, slong := bsl } } : St) = s := by rw [HSELF.out]
    have HS := Lib.hid hs
    clear hs
    go_enter Tryd.func43, Tryd.ntmps43
    go_wp2_with (refine wpList_store_last rfl _ _ rfl ({ start := bst, indent := bin, front := bfr, pre := bpre, long := blo, miser := true, each := bea, lines := bli, slong := bsl } : Bk) rfl rfl (HOV _).out HQ.out ?_)
    intro Z hO hoth hbel
    obtain ⟨kp, kr, kf⟩ := (FIN.out _ _ Z hO hoth hbel).out
    rw [HS.out] at kf
    have KF := Lib.hid kf
    have KR := Lib.hid kr
    obtain ⟨g0, g1, g2, g3, g4⟩ := pg_cell kp
    clear hO hoth hbel kf kr kp FIN HP4 HOV
    go_wp2_with (refine wpList_store_row rfl 86 _ _ rfl (w.heap.size + 1) (pgC s W (.slice (some ⟨rb, 0, none⟩) s.blocks.length c)) rfl rfl 86 _ KR.out size86 rfl pgC_one ?_)
    exact ret86 rfl (w.heap.size + 1) (pgC s W (.slice (some ⟨rb, 0, none⟩) s.blocks.length c)) rfl (setRow_heap _ _ _ _ _ _ KR.out) rfl rfl KF.out
end
end Go.Proofs.YtljgpcaljedhpaaDoor
