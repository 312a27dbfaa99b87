/- Words for memory, and contracts of the small functions of package pretty. -/
import Derived.Test.YtljgpcaljedhpaaDoorProg
import Derived.Test.YtljgpcaljedhpaaDoorSpec
import Derived.WalkKit
import Derived.WalkSpells
import Derived.Below
import Derived.Laws.OwnMore
import Derived.Deep.AppendLies
import Derived.Deep.Draws
import Derived.Laws.Rows
import Derived.Deep.QuietTactic
import Derived.BigQuiet
import Derived.BigRegion
import Derived.Deep.RegionWith
import Derived.Deep.DeepFit
import Derived.Deep.DeepMust
import Derived.Deep.DeepCutAuto
import Derived.Deep.RegionHeld3
import Derived.Outline
import Derived.Lib.Hide
import Derived.IntWalk
import Derived.OwnWalk
import Derived.KernelRfl
import Derived.Lib.Builder
import Derived.Lib.UnsafeStr
namespace Go.Proofs.YtljgpcaljedhpaaDoor
open Go.RowKit

/-- The library's contracts that the walks lean on; E: what they ask of package-level variables. -/
structure LibC (E : World → Prop) : Prop where
  below : ∀ {w w' : World}, E w → Below w.heap.size w w' → E w'
  con : ∀ (s : ByteArray) (w : World), E w → s.size < 4294967281 → Calls Tryd.prog 21 #[.string s, .string ⟨#[10]⟩] w fun e w' => e = .returned (.bool (nlB s)) ∧ w = w'
  val : ∀ (s : ByteArray) (w : World), E w → s.size ≤ 9223372036854775807 → Calls Tryd.prog 64 #[.string s] w fun e w' => e = .returned (.bool (Lib.validD s.data.toList)) ∧ Below w.heap.size w w'
  rc : ∀ (s : ByteArray) (w : World), s.size < 9223372036854775807 → Calls Tryd.prog 33 #[.string s] w fun e w' => e = .returned (.int .i64 (Lib.runeCount s)) ∧ Below w.heap.size w w'
  lib : ∀ (s : ByteArray) (w : World), s.size < 4611686018427387904 → Calls Tryd.prog 57 #[.string s, .int .u8 10] w fun e w' => e = .returned (.int .i64 (Lib.lastIndexByte s 10)) ∧ w = w'
  rep : ∀ (c : Nat) (w : World), c ≤ 140737488355328 → Calls Tryd.prog 8 #[.string ⟨#[32]⟩, .int .i64 c] w fun e w' => e = .returned (.string (spB c)) ∧ Below w.heap.size w w'
  bws : ∀ (T B b : Nat) (l : List UInt8) (s : ByteArray) (w : World), T = 54 → Lib.IsBuilder T 5 B b (Lib.byteCells l) w → l.length + s.size ≤ 140737488355328 → B ≤ w.heap.size →
    Calls Tryd.prog 26 #[.pointer (some ⟨b, 0, none⟩), .string s] w fun e w' => e = .returned (.tuple #[.int .i64 s.size, .nilIface]) ∧ Lib.IsBuilder T 5 B b (Lib.byteCells (l ++ s.data.toList)) w' ∧ Below B w w'
  blen : ∀ (T B b : Nat) (l : List UInt8) (w : World), T = 54 → Lib.IsBuilder T 5 B b (Lib.byteCells l) w → Calls Tryd.prog 27 #[.pointer (some ⟨b, 0, none⟩)] w fun e w' => e = .returned (.int .i64 l.length) ∧ w = w'
  bstr : ∀ (T B b : Nat) (l : List UInt8) (w : World), T = 54 → Lib.IsBuilder T 5 B b (Lib.byteCells l) w → B ≤ w.heap.size → Calls Tryd.prog 28 #[.pointer (some ⟨b, 0, none⟩)] w fun e w' => e = .returned (.string ⟨l.toArray⟩) ∧ Below B w w'
  cnt : ∀ (s : ByteArray) (w : World), Calls Tryd.prog 10 #[.string s, .string ⟨#[10]⟩] w fun e w' => e = .returned (.int .i64 (Lib.countByte s.data.toList 10)) ∧ w = w'

theorem undrew {w w1 : World} {n : Nat} (h : Below (w.drewN n).heap.size (w.drewN n) w1) : Below w.heap.size w w1 := ⟨h.os, h.tape, h.output, h.size, h.block⟩
theorem bdrewN {B : Nat} {a w : World} (h : Below B a w) (n : Nat) : Below B a (w.drewN n) := ⟨h.os, h.tape, h.output, h.size, h.block⟩
theorem lib_bounds (s : ByteArray) : -1 ≤ Lib.lastIndexByte s 10 ∧ Lib.lastIndexByte s 10 < s.size := by
  rcases Lib.lastIdx_spec s 10 s.size with ⟨h, _⟩ | ⟨i, hi, h, _⟩
  · unfold Lib.lastIndexByte; omega
  · unfold Lib.lastIndexByte; omega

set_option maxHeartbeats 400000 in
/-- column. -/
theorem column_any {E : World → Prop} (L : LibC E) (c : Int) (s : ByteArray) (w : World) (h0 : 0 ≤ c) (h1 : c ≤ 1099511627776) (hs : s.size ≤ 140737488355328) :
    Calls Tryd.prog 37 #[.int .i64 c, .string s] w fun e w' => e = .returned (.int .i64 (colP c s)) ∧ Below w.heap.size w w' := by
  obtain ⟨b0, b1⟩ := lib_bounds s
  have r0 := Lib.runeCount_le s
  unfold colP
  obtain ⟨i, hi⟩ : ∃ i, Lib.lastIndexByte s 10 = i := ⟨_, rfl⟩
  have hlib := L.lib s w (by omega)
  rw [hi] at hlib b0 b1 ⊢
  clear hi
  have HL := Lib.hid hlib
  clear hlib
  by_cases h : 0 ≤ i
  · rw [if_pos h]
    obtain ⟨k, rfl⟩ : ∃ k : Nat, i = k := ⟨i.toNat, by omega⟩
    have r1 := Lib.runeCount_le (s.extract (k + 1) s.size)
    have hk : k < s.size := by omega
    have rs : (s.extract (k + 1) s.size).size ≤ s.size := by simp
    go_enter Tryd.func37, Tryd.ntmps37
    go_wp2_with (go_at_call 57; refine HL.out.mono ?_; rintro e w' ⟨rfl, rfl⟩)
    go_quiet (fail)
    go_wp2_with (go_at_call 33; refine (L.rc _ _ (by omega)).mono ?_; rintro e w1 ⟨rfl, hb1⟩)
    go_ret
    exact ⟨rfl, undrew hb1⟩
  · rw [if_neg h]
    go_enter Tryd.func37, Tryd.ntmps37
    go_wp2_with (first | (go_at_call 57; refine HL.out.mono ?_; rintro e w' ⟨rfl, rfl⟩) | (go_at_call 33; refine (L.rc _ _ (by omega)).mono ?_; rintro e w1 ⟨rfl, hb1⟩))
    go_ret
    exact ⟨rfl, hb1⟩

theorem new1 (w : World) (o : Obj) : Below w.heap.size w (w.alloc o) := (Below.refl _ _).alloc (Nat.le_refl _) o
theorem chain {w w1 w2 : World} (h : Below w.heap.size w w1) (k : Below w1.heap.size w1 w2) : Below w.heap.size w w2 := h.trans (k.mono h.size)
theorem new1d (w : World) (o : Obj) (n : Nat) : Below w.heap.size w ((w.alloc o).drewN n) := bdrewN (new1 w o) n

set_option maxHeartbeats 400000 in
theorem spaces_any (k : Int) (t : ByteArray) (n m : Int) (f : Bool) (c : Int) (w : World) (h0 : 0 ≤ c) (h1 : c ≤ 1099511627776) (n0 : 0 ≤ n) (n1 : n ≤ 100) (m0 : 0 ≤ m) (m1 : m ≤ 100) :
    Calls Tryd.prog 56 #[.agg #[.int .i64 k, .string t, .int .i64 n, .int .i64 m, .bool f], .int .i64 c] w fun e w' => e = .returned (.int .i64 (spacesP ⟨k, t, n, m, f⟩ c)) ∧ Below w.heap.size w w' := by
  unfold spacesP
  simp only
  by_cases hm : m = 0
  · subst hm
    cases f
    · go_enter Tryd.func56, Tryd.ntmps56
      go_wp2
      all_goals go_ret
      all_goals exact ⟨rfl, new1 _ _⟩
    · go_enter Tryd.func56, Tryd.ntmps56
      go_wp2
      all_goals go_ret
      all_goals exact ⟨rfl, new1 _ _⟩
  · have m2 : 0 < m := by omega
    clear hm m0
    cases f
    · by_cases hc : c < n
      · go_enter Tryd.func56, Tryd.ntmps56
        go_wp2
        all_goals go_ret
        all_goals exact ⟨rfl, new1 _ _⟩
      · have e1 := Int.emod_nonneg (c - n) (show m ≠ 0 by omega)
        have e2 := Int.emod_lt_of_pos (c - n) m2
        go_enter Tryd.func56, Tryd.ntmps56
        go_wp2
        go_quiet (fail)
        go_wp2
        all_goals go_ret
        all_goals exact ⟨rfl, new1d _ _ _⟩
    · have e1 := Int.emod_nonneg (c + n) (show m ≠ 0 by omega)
      have e2 := Int.emod_lt_of_pos (c + n) m2
      have m3 : ¬ m = 0 := by omega
      by_cases hr : (c + n) % m = 0
      · rw [if_pos rfl, if_neg m3, if_pos hr]
        have hr' : ((c + n) % m == 0) = true := by simp [hr]
        clear hr
        go_enter Tryd.func56, Tryd.ntmps56
        go_wp2
        go_ret
        exact ⟨rfl, new1 _ _⟩
      · rw [if_pos rfl, if_neg m3, if_neg hr]
        have hr' : ((c + n) % m == 0) = false := by simp [hr]
        clear hr
        go_enter Tryd.func56, Tryd.ntmps56
        go_wp2
        go_ret
        exact ⟨rfl, new1 _ _⟩

theorem spaces_bd (x : Op) (c : Int) (h0 : 0 ≤ c) (n0 : 0 ≤ x.n) (n1 : x.n ≤ 100) (m0 : 0 ≤ x.m) (m1 : x.m ≤ 100) : 0 ≤ spacesP x c ∧ spacesP x c ≤ 200 := by
  unfold spacesP
  by_cases hm : x.m = 0
  · simp only [hm, if_true]
    split <;> (try split) <;> omega
  · have e1 := Int.emod_nonneg (c + x.n) hm
    have e2 := Int.emod_lt_of_pos (c + x.n) (show 0 < x.m by omega)
    have e3 := Int.emod_nonneg (c - x.n) hm
    have e4 := Int.emod_lt_of_pos (c - x.n) (show 0 < x.m by omega)
    simp only [hm, if_false]
    split <;> split <;> omega

/-- What Check asks of an operation, as far as the walks lean on it. -/
def okOp (x : Op) : Prop := x.kind = 5 → 0 ≤ x.n ∧ x.n ≤ 100 ∧ 0 ≤ x.m ∧ x.m ≤ 100

set_option maxHeartbeats 400000 in
theorem written_any {E : World → Prop} (L : LibC E) (k : Int) (t : ByteArray) (n m : Int) (f : Bool) (c : Int) (w : World) (h0 : 0 ≤ c) (h1 : c ≤ 1099511627776) (hok : okOp ⟨k, t, n, m, f⟩) :
    Calls Tryd.prog 36 #[.agg #[.int .i64 k, .string t, .int .i64 n, .int .i64 m, .bool f], .int .i64 c] w fun e w' => e = .returned (.string (writtenP ⟨k, t, n, m, f⟩ c)) ∧ Below w.heap.size w w' := by
  by_cases h5 : k = 5
  · subst h5
    obtain ⟨n0, n1, m0, m1⟩ := hok rfl
    simp only at n0 n1 m0 m1
    obtain ⟨s0, s1⟩ := spaces_bd ⟨5, t, n, m, f⟩ c h0 n0 n1 m0 m1
    have hsp := fun w => spaces_any 5 t n m f c w h0 h1 n0 n1 m0 m1
    have e : writtenP ⟨5, t, n, m, f⟩ c = spB (spacesP ⟨5, t, n, m, f⟩ c).toNat := by simp [writtenP]
    rw [e]
    clear e hok
    generalize spacesP ⟨5, t, n, m, f⟩ c = r at *
    obtain ⟨q, rfl⟩ : ∃ q : Nat, r = q := ⟨r.toNat, by omega⟩
    simp only [Int.toNat_natCast]
    have HS := Lib.hid hsp
    clear hsp
    go_enter Tryd.func36, Tryd.ntmps36
    go_wp2_with (first | (go_at_call 56; refine (HS.out _).mono ?_; rintro e w1 ⟨rfl, hb1⟩) | (go_at_call 8; refine (L.rep _ _ (by omega)).mono ?_; rintro e w2 ⟨rfl, hb2⟩))
    go_ret
    exact ⟨rfl, chain (new1 _ _) (chain hb1 hb2)⟩
  · have e : writtenP ⟨k, t, n, m, f⟩ c = if k = 0 ∨ k = 2 ∨ k = 3 then t else ⟨#[]⟩ := by
      unfold writtenP
      simp only [h5, if_false]
      by_cases a : k = 0 <;> by_cases b : k = 2 <;> by_cases d : k = 3 <;> simp [a, b, d]
    rw [e]
    clear e hok
    by_cases h : k = 0 ∨ k = 2 ∨ k = 3
    · rw [if_pos h]
      rcases h with rfl | rfl | rfl
      all_goals
        go_enter Tryd.func36, Tryd.ntmps36
        go_wp2
        go_ret
        exact ⟨rfl, new1 _ _⟩
    · rw [if_neg h]
      have a : ¬ k = 0 := fun e => h (.inl e)
      have b : ¬ k = 2 := fun e => h (.inr (.inl e))
      have d : ¬ k = 3 := fun e => h (.inr (.inr e))
      clear h
      go_enter Tryd.func36, Tryd.ntmps36
      go_wp2
      go_ret
      exact ⟨rfl, new1 _ _⟩
end Go.Proofs.YtljgpcaljedhpaaDoor
