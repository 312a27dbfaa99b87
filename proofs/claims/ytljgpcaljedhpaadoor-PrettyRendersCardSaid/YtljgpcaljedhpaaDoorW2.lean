/- fits and whole: they read the operations and the width alone. -/
import Derived.Test.YtljgpcaljedhpaaDoorW1
namespace Go.Proofs.YtljgpcaljedhpaaDoor
open Go.RowKit

/-- The cells of a slice of operations. -/
def OpsAt (w : World) (ad : Addr) (l : List Op) : Prop :=
  ∀ (i : Nat) (x : Op), l[i]? = some x → w.cell? (ad.add (i * 5)) = some (.int .i64 x.kind) ∧ w.cell? ⟨(ad.add (i * 5)).block, (ad.add (i * 5)).off + 1, none⟩ = some (.string x.text) ∧
    w.cell? ⟨(ad.add (i * 5)).block, (ad.add (i * 5)).off + 2, none⟩ = some (.int .i64 x.n) ∧ w.cell? ⟨(ad.add (i * 5)).block, (ad.add (i * 5)).off + 3, none⟩ = some (.int .i64 x.m) ∧
    w.cell? ⟨(ad.add (i * 5)).block, (ad.add (i * 5)).off + 4, none⟩ = some (.bool x.flag)
theorem block_of_add (a : Addr) (n : Nat) : (a.add n).block = a.block := by unfold Addr.add; split <;> rfl
theorem add_of_add (a : Addr) (i j : Nat) : (a.add i).add j = a.add (i + j) := by
  unfold Addr.add
  by_cases hi : i = 0 <;> by_cases hj : j = 0 <;> simp [hi, hj, Nat.add_assoc]
theorem OpsAt.below {w w' : World} {ad : Addr} {l : List Op} (h : OpsAt w ad l) (hb : Below w.heap.size w w') (ha : ad.block < w.heap.size) : OpsAt w' ad l := fun i x hx => by
  obtain ⟨h0, h1, h2, h3, h4⟩ := h i x hx
  have e : (ad.add (i * 5)).block < w.heap.size := by rw [block_of_add]; exact ha
  exact ⟨(hb.cell e).trans h0, (hb.cell (p := ⟨_, _, none⟩) e).trans h1, (hb.cell (p := ⟨_, _, none⟩) e).trans h2, (hb.cell (p := ⟨_, _, none⟩) e).trans h3, (hb.cell (p := ⟨_, _, none⟩) e).trans h4⟩
theorem OpsAt.drop {w : World} {ad : Addr} {l : List Op} (h : OpsAt w ad l) (k : Nat) : OpsAt w (ad.add (k * 5)) (l.drop k) := fun i x hx => by
  rw [add_of_add, ← Nat.add_mul]
  exact h (k + i) x (by rwa [List.getElem?_drop] at hx)

theorem colP_bd (c : Int) (s : ByteArray) (h : 0 ≤ c) : 0 ≤ colP c s ∧ colP c s ≤ c + s.size := by
  obtain ⟨b0, b1⟩ := lib_bounds s
  have r0 := Lib.runeCount_le s
  unfold colP
  split
  · have r1 := Lib.runeCount_le (s.extract (Lib.lastIndexByte s 10 + 1).toNat s.size)
    have : (s.extract (Lib.lastIndexByte s 10 + 1).toNat s.size).size ≤ s.size := by simp
    omega
  · omega
theorem spB_size (k : Nat) : (spB k).size = k := by
  have h : ∀ k, (Lib.repeatL [32] k).length = k := fun k => by
    induction k with
    | zero => rfl
    | succ k ih => simp [Lib.repeatL, ih]
  unfold spB
  show (Lib.repeatL [32] k).toArray.size = k
  simpa using h k
theorem written_size (x : Op) (c : Int) (h0 : 0 ≤ c) (hok : okOp x) (ht : x.text.size ≤ 20000) : (writtenP x c).size ≤ 20000 := by
  unfold writtenP
  split
  · exact ht
  split
  · exact ht
  split
  · exact ht
  split
  · rename_i h5
    obtain ⟨n0, n1, m0, m1⟩ := hok h5
    have := spaces_bd x c h0 n0 n1 m0 m1
    rw [spB_size]; omega
  · exact Nat.zero_le _

set_option maxHeartbeats 1000000 in
theorem fits_go {E : World → Prop} (L : LibC E) (g : Nat) (ad : Addr) (l : List Op) (cap fr : Nat) (width c0 : Int) (w : World) (hE : E w) (hops : OpsAt w ad l) (had : ad.block < w.heap.size)
    (hc0 : w.cell? ⟨g, 0, none⟩ = some (.slice (some ad) l.length cap)) (hc1 : w.cell? ⟨g, 1, none⟩ = some (.int .i64 width))
    (hok : ∀ x ∈ l, okOp x ∧ x.text.size ≤ 20000) (hfr : fr < l.length) (hl : l.length ≤ 4000) (hcap : l.length ≤ cap) (h0 : 0 ≤ c0) (h1 : c0 ≤ 274877906944) :
    Calls Tryd.prog 31 #[.pointer (some ⟨g, 0, none⟩), .int .i64 fr, .int .i64 c0] w fun e w' => e = .returned (.bool (fitsP width (l.drop fr) 0 c0)) ∧ Below w.heap.size w w' := by
  have hlen : (l.drop fr).length = l.length - fr := List.length_drop
  have hd := hops.drop fr
  obtain ⟨R, hR⟩ : ∃ R, fitsP width (l.drop fr) 0 c0 = R := ⟨_, rfl⟩
  rw [hR]
  have HR := Lib.hid hR
  clear hR
  have HD := Lib.hid hd
  clear hd hops
  have HL := Lib.hid hlen
  clear hlen
  go_enter Tryd.func31, Tryd.ntmps31
  go_wp2
  go_loopw [2, 7, 17] (fun v2 v7 v17 w' => ∃ (j d : Nat) (c : Int), v17 = .int .i64 j ∧ v7 = .int .i64 d ∧ v2 = .int .i64 c ∧ j ≤ l.length - fr ∧ d ≤ j ∧ 0 ≤ c ∧ c ≤ c0 + 20000 * j ∧ Hid (fitsP width ((l.drop fr).drop j) d c = R) ∧ Below w.heap.size w w') (fun _ _ v17 _ => l.length - fr - (intOf v17).toNat)
  case atStart => exact ⟨0, 0, c0, rfl, rfl, rfl, by omega, by omega, by omega, by omega, HR, Below.refl _ _⟩
  case round =>
    obtain ⟨j, d, c, rfl, rfl, rfl, hj, hdj, hc2, hc3, HF, hb⟩ := hrel
    have hc1' := (hb.cell (p := ⟨g, 1, none⟩) (World.block_lt_of_cell? w _ hc1)).trans hc1
    have hg := World.block_lt_of_cell? wr _ hc1'
    have hc1a : ∀ o, (wr.alloc o).cell? ⟨g, 1, none⟩ = some (.int .i64 width) := fun o => (World.cell?_alloc_lt wr o _ hg).trans hc1'
    by_cases hlt : j < l.length - fr
    · obtain ⟨⟨k, t, n, m, f⟩, hx⟩ : ∃ x, (l.drop fr)[j]? = some x := ⟨_, List.getElem?_eq_getElem (by rw [HL.out]; exact hlt)⟩
      have hmem := hok _ (List.mem_of_mem_drop (List.mem_of_getElem? hx))
      obtain ⟨a0, a1, a2, a3, a4⟩ := (HD.out.below hb (by rw [block_of_add]; exact had)) j _ hx
      simp only at a0 a1 a2 a3 a4
      have hdr : (l.drop fr).drop j = ⟨k, t, n, m, f⟩ :: (l.drop fr).drop (j + 1) := by
        rw [List.drop_eq_getElem_cons (by rw [HL.out]; exact hlt)]
        rw [List.getElem?_eq_getElem (by rw [HL.out]; exact hlt)] at hx
        injection hx with hx
        rw [hx]
      have HF2 := HF.out
      rw [hdr] at HF2
      unfold fitsP at HF2
      simp only at HF2
      clear hdr HF hx
      have hwr := written_size ⟨k, t, n, m, f⟩ c hc2 hmem.1 hmem.2
      have h36 := fun W => written_any L k t n m f c W hc2 (by omega) hmem.1
      have h37 := fun W => column_any L c (writtenP ⟨k, t, n, m, f⟩ c) W hc2 (by omega) (by omega)
      have hcb := colP_bd c (writtenP ⟨k, t, n, m, f⟩ c) hc2
      have hts := hmem.2
      simp only at hts
      generalize hs : writtenP ⟨k, t, n, m, f⟩ c = s at *
      generalize hc' : colP c s = c' at *
      clear hs hc' hmem
      obtain ⟨q0, q1⟩ := hcb
      have H36 := Lib.hid h36
      have H37 := Lib.hid h37
      have HF3 := Lib.hid HF2
      clear h36 h37 HF2 HR
      have hd0 : (0 : Int) ≤ (d : Int) := Int.natCast_nonneg _
      by_cases k1 : k = 1
      · subst k1
        by_cases d0 : d = 0
        · subst d0
          have e := HF3.out
          simp only [if_true, Int.natCast_zero] at e
          clear HF3
          subst e
          go_wp2
          go_ret
          exact ⟨rfl, hb.alloc hb.size _⟩
        · have d1 : 0 < d := by omega
          have d2 : ¬ (d : Int) = 0 := by omega
          by_cases n3 : n = 3
          · subst n3
            have e := HF3.out
            simp only [if_true, d2, if_false] at e
            clear HF3 d0 d2
            subst e
            go_wp2
            go_ret
            exact ⟨rfl, hb.alloc hb.size _⟩
          · have e := HF3.out
            simp only [if_true, d2, n3, if_false] at e
            have HF := Lib.hid e
            clear HF3 d0 d2 e
            go_wp2_with (first | (go_at_call 36; refine (H36.out _).mono ?_; rintro e w1 ⟨rfl, hb1⟩) | (go_at_call 37; refine (H37.out _).mono ?_; rintro e w2 ⟨rfl, hb2⟩))
            go_roundw
            case rel => exact ⟨j + 1, d, c', by go_num, rfl, rfl, by omega, by omega, q0, by omega, HF, hb.trans ((chain (new1 _ _) (chain hb1 hb2)).mono hb.size)⟩
            case measure => simp [intOf]; omega
      · by_cases k2 : k = 2
        · subst k2
          have e := HF3.out
          simp only [if_true, k1, if_false] at e
          have HF := Lib.hid e
          clear HF3 e
          go_wp2_with (first | (go_at_call 36; refine (H36.out _).mono ?_; rintro e w1 ⟨rfl, hb1⟩) | (go_at_call 37; refine (H37.out _).mono ?_; rintro e w2 ⟨rfl, hb2⟩))
          go_roundw
          case rel => exact ⟨j + 1, d + 1, c', by go_num, by go_num, rfl, by omega, by omega, q0, by omega, HF, hb.trans ((chain (new1 _ _) (chain hb1 hb2)).mono hb.size)⟩
          case measure => simp [intOf]; omega
        by_cases k3 : k = 3
        · subst k3
          have e := HF3.out
          simp only [if_true, k1, k2, if_false] at e
          have HF := Lib.hid e
          clear HF3 e
          by_cases d0 : d = 0
          · subst d0
            go_wp2_with (first | (go_at_call 36; refine (H36.out _).mono ?_; rintro e w1 ⟨rfl, hb1⟩) | (go_at_call 37; refine (H37.out _).mono ?_; rintro e w2 ⟨rfl, hb2⟩))
            go_roundw
            case rel => exact ⟨j + 1, 0, c', by go_num, rfl, rfl, by omega, by omega, q0, by omega, HF, hb.trans ((chain (new1 _ _) (chain hb1 hb2)).mono hb.size)⟩
            case measure => simp [intOf]; omega
          · have d1 : 0 < d := by omega
            have ed : max ((d : Int) - 1) 0 = ((d - 1 : Nat) : Int) := by omega
            have e := HF.out
            rw [ed] at e
            have HF := Lib.hid e
            clear e ed d0
            go_wp2_with (first | (go_at_call 36; refine (H36.out _).mono ?_; rintro e w1 ⟨rfl, hb1⟩) | (go_at_call 37; refine (H37.out _).mono ?_; rintro e w2 ⟨rfl, hb2⟩))
            go_roundw
            case rel => exact ⟨j + 1, d - 1, c', by go_num, by rw [show ((d : Int) - 1) = ((d - 1 : Nat) : Int) from by omega], rfl, by omega, by omega, q0, by omega, HF, hb.trans ((chain (new1 _ _) (chain hb1 hb2)).mono hb.size)⟩
            case measure => simp [intOf]; omega
        by_cases k0 : k = 0
        · subst k0
          have hcon := fun W (hE : E W) => L.con t W hE (by omega)
          cases hn : nlB t
          · rw [hn] at hcon
            have HC := Lib.hid hcon
            have e := HF3.out
            simp only [if_true, k1, k2, k3, hn, Bool.false_eq_true, if_false] at e
            have HF := Lib.hid e
            clear HF3 e hcon hn
            go_wp2_with (first | (go_at_call 36; refine (H36.out _).mono ?_; rintro e w1 ⟨rfl, hb1⟩) | (go_at_call 37; refine (H37.out _).mono ?_; rintro e w2 ⟨rfl, hb2⟩) | (go_at_call 21; refine (HC.out _ (L.below (L.below hE hb) (new1 _ _))).mono ?_; rintro e w' ⟨rfl, rfl⟩))
            go_roundw
            case rel => exact ⟨j + 1, d, c', by go_num, rfl, rfl, by omega, by omega, q0, by omega, HF, hb.trans ((chain (new1 _ _) (chain hb1 hb2)).mono hb.size)⟩
            case measure => simp [intOf]; omega
          · rw [hn] at hcon
            have HC := Lib.hid hcon
            have e := HF3.out
            simp only [if_true, k1, k2, k3, hn, if_false] at e
            clear HF3 hcon hn
            subst e
            go_wp2_with (first | (go_at_call 36; refine (H36.out _).mono ?_; rintro e w1 ⟨rfl, hb1⟩) | (go_at_call 37; refine (H37.out _).mono ?_; rintro e w2 ⟨rfl, hb2⟩) | (go_at_call 21; refine (HC.out _ (L.below (L.below hE hb) (new1 _ _))).mono ?_; rintro e w' ⟨rfl, rfl⟩))
            go_ret
            exact ⟨rfl, hb.alloc hb.size _⟩
        · have e := HF3.out
          simp only [k0, k1, k2, k3, if_false] at e
          have HF := Lib.hid e
          clear HF3 e
          go_wp2_with (first | (go_at_call 36; refine (H36.out _).mono ?_; rintro e w1 ⟨rfl, hb1⟩) | (go_at_call 37; refine (H37.out _).mono ?_; rintro e w2 ⟨rfl, hb2⟩))
          go_roundw
          case rel => exact ⟨j + 1, d, c', by go_num, rfl, rfl, by omega, by omega, q0, by omega, HF, hb.trans ((chain (new1 _ _) (chain hb1 hb2)).mono hb.size)⟩
          case measure => simp [intOf]; omega
    · have hjl : j = l.length - fr := by omega
      have e := HF.out
      have hnil : (l.drop fr).drop j = [] := List.drop_eq_nil_of_le (by rw [HL.out]; omega)
      rw [hnil] at e
      unfold fitsP at e
      clear HF hnil HR hjl
      subst e
      go_wp2
      go_ret
      exact ⟨rfl, hb⟩

set_option maxHeartbeats 1000000 in
theorem fits_end (g : Nat) (A : Option Addr) (n cap : Nat) (width c0 : Int) (w : World)
    (hc0 : w.cell? ⟨g, 0, none⟩ = some (.slice A n cap)) (hc1 : w.cell? ⟨g, 1, none⟩ = some (.int .i64 width)) (hcap : n ≤ cap) :
    Calls Tryd.prog 31 #[.pointer (some ⟨g, 0, none⟩), .int .i64 n, .int .i64 c0] w fun e w' => e = .returned (.bool (decide (c0 ≤ width))) ∧ Below w.heap.size w w' := by
  have z : n - n = 0 := Nat.sub_self n
  by_cases h : cap = n
  · subst h
    go_enter Tryd.func31, Tryd.ntmps31
    go_wp2
    go_loopw [2, 17] (fun v2 v17 w' => v2 = .int .i64 c0 ∧ v17 = .int .i64 0 ∧ Below w.heap.size w w') (fun _ _ _ => 0)
    case atStart => exact ⟨rfl, rfl, Below.refl _ _⟩
    case round =>
      obtain ⟨rfl, rfl, hb⟩ := hrel
      have hc1' := (hb.cell (p := ⟨g, 1, none⟩) (World.block_lt_of_cell? w _ hc1)).trans hc1
      go_wp2
      go_ret
      exact ⟨rfl, hb⟩
  · have hA : A = none ∨ ∃ ad, A = some ad := by cases A <;> simp
    rcases hA with rfl | ⟨ad, rfl⟩
    all_goals
      go_enter Tryd.func31, Tryd.ntmps31
      go_wp2
      go_loopw [2, 17] (fun v2 v17 w' => v2 = .int .i64 c0 ∧ v17 = .int .i64 0 ∧ Below w.heap.size w w') (fun _ _ _ => 0)
      case atStart => exact ⟨rfl, rfl, Below.refl _ _⟩
      case round =>
        obtain ⟨rfl, rfl, hb⟩ := hrel
        have hc1' := (hb.cell (p := ⟨g, 1, none⟩) (World.block_lt_of_cell? w _ hc1)).trans hc1
        go_wp2
        go_ret
        exact ⟨rfl, hb⟩

/-- What is known of a slice of operations: its cells, below the heap's end. -/
def OpsIn (w : World) (A : Option Addr) (l : List Op) : Prop := l ≠ [] → ∃ ad, A = some ad ∧ OpsAt w ad l ∧ ad.block < w.heap.size
theorem OpsIn.below {w w' : World} {A : Option Addr} {l : List Op} (h : OpsIn w A l) (hb : Below w.heap.size w w') : OpsIn w' A l := fun hne => by
  obtain ⟨ad, e, ho, hl⟩ := h hne
  exact ⟨ad, e, ho.below hb hl, Nat.lt_of_lt_of_le hl hb.size⟩

theorem fits_any {E : World → Prop} (L : LibC E) (g : Nat) (A : Option Addr) (l : List Op) (cap fr : Nat) (width c0 : Int) (w : World) (hE : E w) (hops : OpsIn w A l)
    (hc0 : w.cell? ⟨g, 0, none⟩ = some (.slice A l.length cap)) (hc1 : w.cell? ⟨g, 1, none⟩ = some (.int .i64 width))
    (hok : ∀ x ∈ l, okOp x ∧ x.text.size ≤ 20000) (hfr : fr ≤ l.length) (hl : l.length ≤ 4000) (hcap : l.length ≤ cap) (h0 : 0 ≤ c0) (h1 : c0 ≤ 274877906944) :
    Calls Tryd.prog 31 #[.pointer (some ⟨g, 0, none⟩), .int .i64 fr, .int .i64 c0] w fun e w' => e = .returned (.bool (fitsP width (l.drop fr) 0 c0)) ∧ Below w.heap.size w w' := by
  rcases Nat.lt_or_ge fr l.length with h | h
  · obtain ⟨ad, rfl, ho, ha⟩ := hops (by rintro rfl; simp at h)
    exact fits_go L g ad l cap fr width c0 w hE ho ha hc0 hc1 hok h hl hcap h0 h1
  · obtain rfl : fr = l.length := by omega
    rw [List.drop_length]
    unfold fitsP
    exact fits_end g A l.length cap width c0 w hc0 hc1 hcap
end Go.Proofs.YtljgpcaljedhpaaDoor
