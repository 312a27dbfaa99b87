/- The reference's breaks, walked. -/
import Derived.Test.YtljgpcaljedhpaaDoorS2
namespace Go.Proofs.YtljgpcaljedhpaaDoor
open Go.RowKit

/-- What breaks, begun and step ask of a page and the operations. -/
structure PageAsks (w : World) (A : Option Addr) (l : List Op) (lcap : Nat) (s : St) (ad : Addr) (cap : Nat) (W : Int) : Prop where
  ops : OpsIn w A l
  ok : ∀ x ∈ l, Valid x ∧ x.text.size ≤ 20000
  len : l.length ≤ 4000
  lcap : l.length ≤ lcap
  br : BrokenAsks s
  bks : BksAt w ad s.blocks
  lt : ad.block < w.heap.size
  cap : s.blocks.length ≤ cap
  w0 : -1000000 ≤ W
  w1 : W ≤ 1000000

theorem PageAsks.bel {w w' : World} {A : Option Addr} {l : List Op} {lcap : Nat} {s : St} {ad : Addr} {cap : Nat} {W : Int} (h : PageAsks w A l lcap s ad cap W) (hb : Below w.heap.size w w') : PageAsks w' A l lcap s ad cap W :=
  ⟨h.ops.below hb, h.ok, h.len, h.lcap, h.br, h.bks.below hb h.lt, Nat.lt_of_lt_of_le h.lt hb.size, h.cap, h.w0, h.w1⟩

theorem al1 {w : World} {a : Addr} {v : Value} (h : w.cell? a = some v) (o : Obj) : (w.alloc o).cell? a = some v := (World.cell?_alloc_lt w o _ (World.block_lt_of_cell? w _ h)).trans h
theorem al2 {w : World} {a : Addr} {v : Value} (h : w.cell? a = some v) (o o' : Obj) : ((w.alloc o).alloc o').cell? a = some v := al1 (al1 h o) o'

set_option linter.unusedSimpArgs false in
set_option maxRecDepth 100000 in
set_option maxHeartbeats 1600000 in
theorem rbreaks_any (A : Option Addr) (l : List Op) (lcap : Nat) (s : St) (ad : Addr) (cap : Nat) (W : Int) (i : Nat) (x : Op) (w : World) (h : PageAsks w A l lcap s ad cap W) (hx : l[i]? = some x) (hk : x.kind = 1) :
    Calls Tryd.prog 62 #[pageV s W (.slice (some ad) s.blocks.length cap), .slice A l.length lcap, .int .i64 i] w fun e w' => e = .returned (.bool (rbreaksP W s x (l.drop (i + 1)))) ∧ Below w.heap.size w w' := by
  have hi := (List.getElem?_eq_some_iff.1 hx).1
  have hl4 := h.len
  obtain ⟨hval, hts⟩ := h.ok x (List.mem_of_getElem? hx)
  have hn := hval.nl hk
  have htop := top_at h.br.ne
  obtain ⟨b0, b1, b2, b3, b4, b5, b6, b7, b8⟩ := h.bks _ _ htop
  obtain ⟨aop, rfl, ho, hlo⟩ := h.ops (by rintro rfl; simp at hi)
  obtain ⟨_, _, a2, _, _⟩ := ho i x hx
  have hfit := fun w' (hb : Below w.heap.size w w') => rfits_any (some aop) l lcap (i + 1) s.at_ W 0 w' (h.ops.below hb) h.ok h.len h.lcap (by omega) h.br.a0 (by have := h.br.a1; omega) h.w1 (by decide) (by decide)
  obtain ⟨R, hR⟩ : ∃ R, rbreaksP W s x (l.drop (i + 1)) = R := ⟨_, rfl⟩
  rw [hR]
  unfold rbreaksP at hR
  generalize topOf s = b at *
  obtain ⟨bst, bin, bfr, bpre, blo, bmi, bea, bli, bsl⟩ := b
  obtain ⟨xk, xt, xn, xm, xf⟩ := x
  simp only at b0 b1 b2 b3 b4 b5 b6 b7 b8 a2 hR hn
  generalize rfitsP W (l.drop (i + 1)) 0 0 s.at_ = f at *
  have hne := List.length_pos_iff.2 h.br.ne
  have hcap := h.cap
  have hlc := h.lcap
  have hfew := h.br.few
  have e1 : ((s.blocks.length : Nat) : Int) - 1 = ((s.blocks.length - 1 : Nat) : Int) := by omega
  have hlt : s.blocks.length - 1 < s.blocks.length := by omega
  have e2 : IntKind.i64.wrap ((i : Int) + 1) = ((i + 1 : Nat) : Int) := IntWalk.i64_in _ (by omega)
  have HF := Lib.hid hfit
  have HR := Lib.hid hR
  have z0 := al1 b0
  have z1 := al1 b1
  have z2 := al1 b2
  have z3 := al1 b3
  have z4 := al1 b4
  have z5 := al1 b5
  have z6 := al1 b6
  have z7 := al1 b7
  have z8 := al1 b8
  have y2 := al2 a2
  clear b0 b1 b2 b3 b4 b5 b6 b7 b8 a2
  clear hfit hR h hx hval ho hk htop hts
  unfold pageV
  rcases (show xn = 0 ∨ xn = 1 ∨ xn = 2 ∨ xn = 3 by omega) with rfl | rfl | rfl | rfl
  · have hR := HR.out
    simp only [Int.reduceEq, reduceIte] at hR
    subst hR
    clear HR HF
    go_enter Tryd.func62, Tryd.ntmps62
    go_wp2_with fail
    go_ret
    exact ⟨rfl, (new1 w _).alloc (by simp) _⟩
  · have hR := HR.out
    simp only [Int.reduceEq, reduceIte] at hR
    have hlo0 : (w.alloc (.cells #[.string ⟨s.out.toArray⟩, .int .i64 s.at_, .int .i64 s.lines, .int .i64 W, .slice (some ad) s.blocks.length cap] 86)).heap[w.heap.size]? = some (.cells #[.string ⟨s.out.toArray⟩, .int .i64 s.at_, .int .i64 s.lines, .int .i64 W, .slice (some ad) s.blocks.length cap] 86 (0, 0)) := heap_alloc_new w _
    obtain ⟨V, hV⟩ : ∃ V, (w.alloc (.cells #[.string ⟨s.out.toArray⟩, .int .i64 s.at_, .int .i64 s.lines, .int .i64 W, .slice (some ad) s.blocks.length cap] 86)).alloc (.cells #[.int .i64 bst, .int .i64 bin, .bool blo, .bool bmi, .string bpre, .bool bea, .int .i64 bfr, .bool (!bsl), .int .i64 bli] 83) = V := ⟨_, rfl⟩
    have hVb : Below w.heap.size w V := by rw [← hV]; exact (new1 w _).alloc (by simp) _
    have hV0 : V.heap[w.heap.size]? = some (.cells #[.string ⟨s.out.toArray⟩, .int .i64 s.at_, .int .i64 s.lines, .int .i64 W, .slice (some ad) s.blocks.length cap] 86 (0, 0)) := by rw [← hV, Below.heap_alloc _ _ _ (by simp)]; exact hlo0
    have hV1 : V.heap[w.heap.size + 1]? = some (.cells #[.int .i64 bst, .int .i64 bin, .bool blo, .bool bmi, .string bpre, .bool bea, .int .i64 bfr, .bool (!bsl), .int .i64 bli] 83 (0, 0)) := by rw [← hV]; exact heap_alloc2 w _ _
    have HV := Lib.hid hV
    have HVB := Lib.hid hVb
    have HV0 := Lib.hid hV0
    have HV1 := Lib.hid hV1
    have HR := Lib.hid hR
    clear hR hlo0 hV hVb hV0 hV1
    have fin : ∀ (w1 : World), Below V.heap.size V w1 → Hid (Below w.heap.size w w1 ∧ w1.cell? ⟨w.heap.size, 2, none⟩ = some (.int .i64 s.lines) ∧ w1.cell? ⟨w.heap.size + 1, 8, none⟩ = some (.int .i64 bli) ∧ w1.cell? ⟨w.heap.size + 1, 2, none⟩ = some (.bool blo) ∧ w1.cell? ⟨w.heap.size + 1, 3, none⟩ = some (.bool bmi)) := fun w1 hb1 =>
      Lib.hid ⟨HVB.out.trans (hb1.mono HVB.out.size), blk_cell (blk_below HV0.out hb1) 2, blk_cell (blk_below HV1.out hb1) 8, blk_cell (blk_below HV1.out hb1) 2, blk_cell (blk_below HV1.out hb1) 3⟩
    have HFIN := Lib.hid fin
    clear fin
    by_cases hln : bli = s.lines
    · have h1 : (bli == s.lines) = true := by simpa using hln
      have h2 : (bli != s.lines) = false := by simp [hln]
      have hR := HR.out
      rw [h2, Bool.or_false] at hR
      have HR := Lib.hid hR
      clear hR hln
      cases f <;> cases blo <;> cases bmi
      all_goals
        have hR := HR.out
        simp only [Bool.not_false, Bool.not_true, Bool.true_or, Bool.false_or, Bool.and_true, Bool.and_false] at hR
        subst hR
        clear HR
        go_enter Tryd.func62, Tryd.ntmps62
        go_wp2_with (go_at_call 42; rw [HV.out]; refine (HF.out V HVB.out).mono ?_; rintro e w1 ⟨rfl, hb1⟩; obtain ⟨hB, m2, m8, n2, n3⟩ := (HFIN.out w1 hb1).out; have HBB := Lib.hid hB; clear hb1 hB)
        go_ret
        exact ⟨rfl, HBB.out⟩
    · have h1 : (bli == s.lines) = false := by simpa using hln
      have h2 : (bli != s.lines) = true := by simp [hln]
      have hR := HR.out
      rw [h2, Bool.or_true, Bool.true_or] at hR
      subst hR
      clear HR hln
      cases f
      all_goals
        go_enter Tryd.func62, Tryd.ntmps62
        go_wp2_with (go_at_call 42; rw [HV.out]; refine (HF.out V HVB.out).mono ?_; rintro e w1 ⟨rfl, hb1⟩; obtain ⟨hB, m2, m8, n2, n3⟩ := (HFIN.out w1 hb1).out; have HBB := Lib.hid hB; clear hb1 hB)
        go_ret
        exact ⟨rfl, HBB.out⟩
  · have hR := HR.out
    simp only [Int.reduceEq, reduceIte] at hR
    cases blo
    all_goals
      simp only [Bool.false_and, Bool.true_and] at hR
      subst hR
      clear HR HF
      go_enter Tryd.func62, Tryd.ntmps62
      go_wp2_with fail
      go_ret
      exact ⟨rfl, (new1 w _).alloc (by simp) _⟩
  · have hR := HR.out
    simp only [Int.reduceEq, reduceIte] at hR
    subst hR
    clear HR HF
    go_enter Tryd.func62, Tryd.ntmps62
    go_wp2_with fail
    go_ret
    exact ⟨rfl, (new1 w _).alloc (by simp) _⟩
end Go.Proofs.YtljgpcaljedhpaaDoor
